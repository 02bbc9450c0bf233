/- The parts of a sentence: an iterator that calls itself, walked at whatever depth; counted, collected. -/
import Derived.Test.YtfiefcfjedmhaaaDoorW41
import Derived.Test.YtfiefcfjedmhaaaDoorR41
import Derived.Test.YtfiefcfjedmhaaaDoorAbsG
namespace Go.Proofs.YtfiefcfjedmhaaaDoor
open Go Go.Abs Go.Abs.Asks
set_option linter.unusedVariables false
set_option linter.unusedSimpArgs false
set_option linter.unusedSectionVars false
/-! ### Boxes of frames at whatever depth -/
def hiId (n : Nat) : Abs.Id → Prop
  | .tmp d _ _ => n ≤ d
  | .box d _ _ => n ≤ d
  | .res _ => False

theorem demBx_at {i : Abs.Id} {f f' : Nat → Nat → Option Box} {d t : Nat} (e : f d t = f' d t) : demBx i f d t = demBx i f' d t := by
  unfold demBx; rw [e]

/-- As B but at one depth. -/
def Off (N : Nat) (B f : Nat → Nat → Option Box) : Prop := ∀ d t, d ≠ N → f d t = B d t
theorem Off.refl {N : Nat} {B : Nat → Nat → Option Box} : Off N B B := fun _ _ _ => rfl
theorem Off.set {N u : Nat} {B f : Nat → Nat → Option Box} {x : Option Box} (h : Off N B f) : Off N B (fun d t => if Nat.beq d N && Nat.beq t u then x else f d t) := fun d t hd => by
  dsimp only
  rw [if_neg]
  · exact h d t hd
  · intro hc
    simp only [Bool.and_eq_true] at hc
    exact hd (Nat.eq_of_beq_eq_true hc.1)
theorem Off.dem {N : Nat} {B f : Nat → Nat → Option Box} {i : Abs.Id} (hB : ∀ i, hiId N i → ∀ d t, demBx i B d t = B d t) (hi : hiId N i) (h : Off N B f) : Off N B (demBx i f) := fun d t hd => by
  rw [demBx_at (h d t hd)]; exact hB i hi d t
/-- The boxes above b bear no rows. -/
def Pln (b : Nat) (f : Nat → Nat → Option Box) : Prop := ∀ i d t, b < d → demBx i f d t = f d t
theorem Pln.dem {b : Nat} {f : Nat → Nat → Option Box} {j : Abs.Id} (h : Pln b f) : Pln b (demBx j f) := fun i d t hd => by
  rw [demBx_at (h j d t hd), h i d t hd, h j d t hd]
theorem Pln.set {b N u : Nat} {f : Nat → Nat → Option Box} {cs : List AV} {z : Bool} (hc : ∀ i, dems i cs = cs) (h : Pln b f) : Pln b (fun d t => if Nat.beq d N && Nat.beq t u then some ⟨cs, z⟩ else f d t) := fun i d t hd => by
  by_cases hq : (Nat.beq d N && Nat.beq t u) = true
  · have e : (fun d t => if Nat.beq d N && Nat.beq t u then some (⟨cs, z⟩ : Box) else f d t) d t = some ⟨cs, z⟩ := if_pos hq
    rw [e]
    unfold demBx
    rw [e]
    dsimp only
    rw [hc i]
  · have e : (fun d t => if Nat.beq d N && Nat.beq t u then some (⟨cs, z⟩ : Box) else f d t) d t = f d t := if_neg hq
    rw [e, demBx_at (f' := f) e]
    exact h i d t hd

/-- What a yield builds upon: up to depth b0, what the boxes hold when so much has been handed on. -/
structure Bs where
  b0 : Nat
  l : Nat
  LP : List LoopRec
  BX : List Tree → Nat → Nat → Option Box
  hi : ∀ acc i, hiId (b0 + 1) i → ∀ d t, d ≤ b0 → demBx i (BX acc) d t = BX acc d t
structure Base (β : Bs) (g : G) (acc : List Tree) : Prop where
  dp : β.b0 ≤ g.dp
  lp : g.lp.take (β.l + 1) = β.LP
  ln : β.l < g.lp.length
  lo : ∀ d t, d ≤ β.b0 → g.bx d t = β.BX acc d t
  top : ∀ d t, g.dp < d → g.bx d t = none
  pl : Pln β.b0 g.bx
structure After (β : Bs) (g g' : G) (acc : List Tree) : Prop where
  dp : g'.dp = g.dp
  lp : g'.lp = g.lp
  up : ∀ d t, β.b0 < d → g'.bx d t = g.bx d t
  lo : ∀ d t, d ≤ β.b0 → g'.bx d t = β.BX acc d t

theorem Base.hi {β : Bs} {g : G} {acc : List Tree} (h : Base β g acc) : ∀ i, hiId (g.dp + 1) i → ∀ d t, demBx i g.bx d t = g.bx d t := fun i hi d t => by
  by_cases hd : β.b0 < d
  · exact h.pl i d t hd
  · have hd : d ≤ β.b0 := by omega
    rw [demBx_at (h.lo d t hd), h.lo d t hd]
    refine β.hi acc i ?_ d t hd
    have := h.dp
    cases i <;> simp only [hiId] at hi ⊢ <;> omega
theorem After.base {β : Bs} {g g' : G} {acc acc' : List Tree} (h : Base β g acc) (ha : After β g g' acc') : Base β g' acc' where
  dp := by rw [ha.dp]; exact h.dp
  lp := by rw [ha.lp]; exact h.lp
  ln := by rw [ha.lp]; exact h.ln
  lo := ha.lo
  top := fun d t hd => by rw [ha.dp] at hd; have := h.dp; rw [ha.up d t (by omega)]; exact h.top d t hd
  pl := fun i d t hd => by rw [demBx_at (ha.up d t hd), ha.up d t hd]; exact h.pl i d t hd
/-- A frame upon it. -/
theorem Base.frame {β : Bs} {B f : Nat → Nat → Option Box} {n : Nat} {lp : List LoopRec} {acc : List Tree} (h : Base β ⟨B, n, lp⟩ acc) (ho : Off (n + 1) B f) (hp : Pln β.b0 f) : Base β ⟨f, n + 1, lp⟩ acc where
  dp := Nat.le_succ_of_le h.dp
  lp := h.lp
  ln := h.ln
  lo := fun d t hd => by have := h.dp; dsimp only at this; rw [← h.lo d t hd]; exact ho d t (by omega)
  top := fun d t hd => by
    have hd : n + 1 < d := hd
    show f d t = none
    rw [ho d t (by omega)]; exact h.top d t (by show n < d; omega)
  pl := hp
theorem After.exit {β : Bs} {B f B' : Nat → Nat → Option Box} {n : Nat} {lp : List LoopRec} {acc acc' : List Tree} (ha : After β ⟨f, n + 1, lp⟩ ⟨B', n + 1, lp⟩ acc') (h : Base β ⟨B, n, lp⟩ acc) (ho : Off (n + 1) B f) :
    After β ⟨B, n, lp⟩ ⟨fun d t => if Nat.beq d (n + 1) then none else B' d t, n, lp⟩ acc' where
  dp := rfl
  lp := rfl
  up := fun d t hd => by
    dsimp only
    by_cases hn : d = n + 1
    · subst hn
      rw [if_pos (Nat.beq_refl _)]
      exact (h.top (n + 1) t (Nat.lt_succ_self n)).symm
    · rw [if_neg (fun e => hn (Nat.eq_of_beq_eq_true e)), ← ho d t hn]
      exact ha.up d t hd
  lo := fun d t hd => by
    have := h.dp
    dsimp only at this ⊢
    rw [if_neg (fun e => by have := Nat.eq_of_beq_eq_true e; omega)]
    exact ha.lo d t hd

theorem demBx_set (i : Abs.Id) (N u : Nat) (cs : List AV) (z : Bool) (f : Nat → Nat → Option Box) (d t : Nat) :
    demBx i (fun d t => if Nat.beq d N && Nat.beq t u then some ⟨cs, z⟩ else f d t) d t = if Nat.beq d N && Nat.beq t u then some ⟨dems i cs, z⟩ else demBx i f d t := by
  unfold demBx
  dsimp only
  by_cases h : (Nat.beq d N && Nat.beq t u) = true
  · rw [if_pos h, if_pos h]
  · rw [if_neg h, if_neg h]

theorem dem_ptr (i : Abs.Id) (d u o : Nat) : dem i (.ptr d u o) = .ptr d u o := rfl
theorem loadA_ptr (T : Nat → Option TI) (bx : Nat → Nat → Option Box) (t d u off : Nat) : loadA T bx t (.ptr d u off) = (match T t with
  | none => none
  | some ti => match bx d u with
      | none => none
      | some b => match ti.agg with
        | true => match AV.datas ((b.cells.drop off).take ti.size) with
          | some cs => if Nat.beq cs.length ti.size then some (.d (.agg cs)) else none
          | none => none
        | false => b.cells[off]?) := by
  unfold loadA
  cases T t <;> rfl

variable [Asks]

/-- The yield of β, for elements of bulk s or less, while less than m have been handed on. -/
def Yd (β : Bs) (m s : Nat) : Prop := ∀ (x : Tree) (acc : List Tree) (c : Nat) (K : Nat → Out → G → Option Out) (r : Out) (g : G), x.bulk ≤ s → acc.length < m → Base β g acc → Same.same r r = true →
  (∀ g', After β g g' (acc ++ [x]) → Evx (fun i => K i (.ret [.d (.bool true)]) g') r) → Evx (fun i => runQ (pr i) (i - c) Out (.yld β.l) [.d x.d] g (K i)) r

theorem Evx.opn {c : Nat} {cal : Cal} {args : Nat → List AV} {args' : List AV} {g : Nat → G} {B : Nat → Nat → Option Box} {n : Nat} {lp : List LoopRec} {k : Nat → Out → G → Option Out} {r : Out} (ea : ∀ i, args i = args') (eg : ∀ i, g i = ⟨B, n, lp⟩)
    (h : Evx (fun i => runQ (pr i) (i - c) Out cal args' ⟨B, n, lp⟩ (k i)) r) : Evx (fun i => runQ (pr i) (i - c) Out cal (args i) (g i) (k i)) r :=
  h.of_eq fun i => by rw [ea, eg]

theorem Yd.use {β : Bs} {m s : Nat} (hY : Yd β m s) {x : Tree} {acc : List Tree} {c : Nat} {args : Nat → List AV} {g : Nat → G} {K : Nat → Out → G → Option Out} {r : Out} {B f : Nat → Nat → Option Box} {n : Nat} {lp : List LoopRec}
    (ea : ∀ i, args i = [.d x.d]) (eg : ∀ i, g i = ⟨f, n + 1, lp⟩) (hx : x.bulk ≤ s) (hm : acc.length < m) (hB : Base β ⟨B, n, lp⟩ acc) (ho : Off (n + 1) B f) (hp : Pln β.b0 f) (hr : Same.same r r = true)
    (h : ∀ B', After β ⟨f, n + 1, lp⟩ ⟨B', n + 1, lp⟩ (acc ++ [x]) → After β ⟨B, n, lp⟩ ⟨fun d t => if Nat.beq d (n + 1) then none else B' d t, n, lp⟩ (acc ++ [x]) → Evx (fun i => K i (.ret [.d (.bool true)]) ⟨B', n + 1, lp⟩) r) :
    Evx (fun i => runQ (pr i) (i - c) Out (.yld β.l) (args i) (g i) (K i)) r := by
  refine Evx.opn ea eg (hY x acc c K r _ hx hm (hB.frame ho hp) hr ?_)
  rintro ⟨B', d', lp'⟩ ha
  obtain rfl : d' = n + 1 := ha.dp
  obtain rfl : lp' = lp := ha.lp
  exact h B' ha (ha.exit hB ho)

/-! ### A range within: its yield calls the one outside -/
theorem Base.lps {β : Bs} {B : Nat → Nat → Option Box} {n : Nat} {lp lp' : List LoopRec} {acc : List Tree} (h : Base β ⟨B, n, lp⟩ acc) (ht : lp'.take (β.l + 1) = lp.take (β.l + 1)) (hl : lp'.length = lp.length) : Base β ⟨B, n, lp'⟩ acc where
  dp := h.dp
  lp := by show lp'.take _ = _; rw [ht]; exact h.lp
  ln := by show _ < lp'.length; rw [hl]; exact h.ln
  lo := h.lo
  top := h.top
  pl := h.pl

def inB (β : Bs) (f : Nat → Nat → Option Box) (n : Nat) (lp : List LoopRec) (rec : LoopRec) (acc : List Tree) (W : Tree → Tree) (hp : Pln β.b0 f) (hd : β.b0 ≤ n) : Bs where
  b0 := n + 1
  l := lp.length
  LP := lp ++ [rec]
  BX := fun acc' d t => if Nat.ble d β.b0 then β.BX (acc ++ acc'.map W) d t else f d t
  hi := fun acc' i hi d t hd' => by
    by_cases hb : d ≤ β.b0
    · have e : (if Nat.ble d β.b0 then β.BX (acc ++ acc'.map W) d t else f d t) = β.BX (acc ++ acc'.map W) d t := if_pos (by simpa using hb)
      rw [e, demBx_at (f' := β.BX (acc ++ acc'.map W)) e]
      refine β.hi _ i ?_ d t hb
      cases i <;> simp only [hiId] at hi ⊢ <;> omega
    · have e : (if Nat.ble d β.b0 then β.BX (acc ++ acc'.map W) d t else f d t) = f d t := if_neg (by simpa using hb)
      rw [e, demBx_at (f' := f) e]
      exact hp i d t (by omega)

section
variable {β : Bs} {f B : Nat → Nat → Option Box} {n : Nat} {lp : List LoopRec} {rec : LoopRec} {acc : List Tree} {W : Tree → Tree} {hp : Pln β.b0 f} {hd : β.b0 ≤ n}

theorem inB_lo {acc' : List Tree} {d t : Nat} (h : d ≤ β.b0) : (inB β f n lp rec acc W hp hd).BX acc' d t = β.BX (acc ++ acc'.map W) d t := if_pos (by simpa using h)
theorem inB_hi {acc' : List Tree} {d t : Nat} (h : β.b0 < d) : (inB β f n lp rec acc W hp hd).BX acc' d t = f d t := if_neg (by simpa using h)

theorem inB_start (hB : Base β ⟨B, n, lp⟩ acc) (ho : Off (n + 1) B f) : Base (inB β f n lp rec acc W hp hd) ⟨f, n + 1, lp ++ [rec]⟩ [] where
  dp := Nat.le_refl _
  lp := by show (lp ++ [rec]).take (lp.length + 1) = lp ++ [rec]; rw [List.take_of_length_le (by simp)]
  ln := by show lp.length < (lp ++ [rec]).length; simp
  lo := fun d t h => by
    by_cases hb : d ≤ β.b0
    · rw [inB_lo hb, List.map_nil, List.append_nil, ← hB.lo d t hb]
      exact ho d t (by have h1 := hd; omega)
    · rw [inB_hi (by omega)]
  top := fun d t h => by
    have h : n + 1 < d := h
    show f d t = none
    rw [ho d t (by omega)]; exact hB.top d t (by show n < d; omega)
  pl := fun i d t h => hp i d t (by have h : n + 1 < d := h; have := hd; omega)

theorem inB_down {acc' : List Tree} {C : Nat → Nat → Option Box} {q : Nat} {lq : List LoopRec} (hl : β.l < lp.length) (hlp : lp.take (β.l + 1) = β.LP) (h : Base (inB β f n lp rec acc W hp hd) ⟨C, q, lq⟩ acc') : Base β ⟨C, q, lq⟩ (acc ++ acc'.map W) where
  dp := Nat.le_trans hd (Nat.le_trans (Nat.le_succ n) h.dp)
  lp := by
    have e : lq.take (lp.length + 1) = lp ++ [rec] := h.lp
    show lq.take (β.l + 1) = β.LP
    have e2 : lq.take (β.l + 1) = (lq.take (lp.length + 1)).take (β.l + 1) := by rw [List.take_take, Nat.min_eq_left (by omega)]
    rw [e2, e, List.take_append_of_le_length (by omega), hlp]
  ln := Nat.lt_trans hl h.ln
  lo := fun d t hh => by rw [← inB_lo hh]; exact h.lo d t (by have := hd; show d ≤ n + 1; omega)
  top := h.top
  pl := fun i d t hh => by
    by_cases hq : d ≤ n + 1
    · have e : C d t = f d t := by rw [← inB_hi (W := W) (acc := acc) (acc' := acc') (rec := rec) (lp := lp) (n := n) (hp := hp) (hd := hd) hh]; exact h.lo d t hq
      show demBx i C d t = C d t
      rw [demBx_at e, e]; exact hp i d t hh
    · exact h.pl i d t (by show n + 1 < d; omega)

theorem inB_rec {acc' : List Tree} {C : Nat → Nat → Option Box} {q : Nat} {lq : List LoopRec} (h : Base (inB β f n lp rec acc W hp hd) ⟨C, q, lq⟩ acc') : lq[lp.length]? = some rec := by
  have e : lq.take (lp.length + 1) = lp ++ [rec] := h.lp
  have : (lq.take (lp.length + 1))[lp.length]? = some rec := by rw [e]; simp
  rwa [List.getElem?_take, if_pos (by omega)] at this

theorem inB_up {acc' : List Tree} {C C' : Nat → Nat → Option Box} {q : Nat} {lq : List LoopRec} {x : Tree} (h : Base (inB β f n lp rec acc W hp hd) ⟨C, q, lq⟩ acc') (ha : After β ⟨C, q, lq⟩ ⟨C', q, lq⟩ (acc ++ acc'.map W ++ [W x])) :
    After (inB β f n lp rec acc W hp hd) ⟨C, q, lq⟩ ⟨C', q, lq⟩ (acc' ++ [x]) where
  dp := rfl
  lp := rfl
  up := fun d t hh => ha.up d t (by have hh : n + 1 < d := hh; have := hd; omega)
  lo := fun d t hh => by
    by_cases hb : d ≤ β.b0
    · rw [inB_lo hb, List.map_append, ← List.append_assoc]
      exact ha.lo d t hb
    · rw [inB_hi (by omega)]
      have e : C d t = f d t := by rw [← inB_hi (W := W) (acc := acc) (acc' := acc') (rec := rec) (lp := lp) (n := n) (hp := hp) (hd := hd) (show β.b0 < d by omega)]; exact h.lo d t hh
      rw [← e]
      exact ha.up d t (by omega)
end

/-- What the body of a range within is to do. -/
def Bd (β : Bs) (f : Nat → Nat → Option Box) (n : Nat) (l : Nat) (rec : LoopRec) (m s : Nat) (W : Tree → Tree) : Prop := ∀ (x : Tree) (acc : List Tree) (c : Nat) (K : Nat → Out → G → Option Out) (r : Out) (C : Nat → Nat → Option Box) (q : Nat) (lq : List LoopRec),
  x.bulk ≤ s → acc.length < m → Base β ⟨C, q, lq⟩ acc → lq[l]? = some rec → β.l < l → n + 1 ≤ q → (∀ t, C (n + 1) t = f (n + 1) t) → Same.same r r = true →
  (∀ C', After β ⟨C, q, lq⟩ ⟨C', q, lq⟩ (acc ++ [W x]) → Evx (fun i => K i (.ret [.d (.bool true)]) ⟨C', q, lq⟩) r) → Evx (fun i => runQ (pr i) (i - c) Out (.yld l) [.d x.d] ⟨C, q, lq⟩ (K i)) r

theorem Bd.yd {β : Bs} {f B : Nat → Nat → Option Box} {n : Nat} {lp : List LoopRec} {rec : LoopRec} {m s : Nat} {acc : List Tree} {W : Tree → Tree} (hbd : Bd β f n lp.length rec m s W) (hB : Base β ⟨B, n, lp⟩ acc) (hp : Pln β.b0 f) (hm : acc.length ≤ m) :
    Yd (inB β f n lp rec acc W hp hB.dp) (m - acc.length) s := by
  rintro x acc' c K r ⟨C, q, lq⟩ hx hm' hb hr hK
  have hdn := inB_down hB.ln hB.lp hb
  refine hbd x (acc ++ acc'.map W) c K r C q lq hx (by rw [List.length_append, List.length_map]; omega) hdn (inB_rec hb) hB.ln hb.dp (fun t => ?_) hr ?_
  · rw [← inB_hi (W := W) (acc := acc) (acc' := acc') (rec := rec) (lp := lp) (n := n) (hp := hp) (hd := hB.dp) (show β.b0 < n + 1 by have := hB.dp; dsimp only at this; omega)]
    exact hb.lo (n + 1) t (Nat.le_refl _)
  · intro C' ha
    exact hK _ (inB_up hb ha)

theorem setPend_back {lq : List LoopRec} {l : Nat} {rec : LoopRec} (h : lq[l]? = some rec) (hp : rec.pend = none) : (lq.modify l fun r => { r with pend := some .normal }).modify l (fun r => { r with pend := none }) = lq := by
  apply List.ext_getElem?
  intro j
  rw [List.getElem?_modify, List.getElem?_modify]
  by_cases hj : l = j
  · subst hj
    rw [h]
    obtain ⟨a1, a2, a3, a4, a5, a6, a7, a8, a9⟩ := rec
    dsimp only at hp
    subst hp
    simp
  · simp [hj]

theorem partsFn_ev (t : Tree) : Ev pr 38 [t.d] (.ret [.d (.fn (.func 47) [.at [.str t.fn, .sl 1 (ints t.vs), .sl 3 (trees t.ks)]])]) := by
  apply Ev.enter; intro c; (conv => arg 1; ext i; whnf)
  exact Evx.pure rfl

theorem again_ev (t a b : Tree) (ht : t.ok) : Ev pr 48 [a.d, b.d, .at [.str t.fn, .sl 1 (ints t.vs), .sl 3 (trees t.ks)]] (.ret [.d (againT t a b).d]) := by
  apply Ev.enter; intro c; (conv => arg 1; ext i; whnf)
  refine Evx.pure ?_
  rw [show (againT t a b).d = .agg [.str t.fn, .sl 1 (ints t.vs), .sl 3 [[.str a.fn, .sl 1 (ints a.vs), .sl 3 (trees a.ks)], [.str b.fn, .sl 1 (ints b.vs), .sl 3 (trees b.ks)]]] by unfold againT; rw [d_node, trees_cons, trees_cons]; rfl]
  kernel_rfl

theorem hfz (i a : Nat) : (((pr i).H 47).freeze.any fun x => Nat.beq a x) = false := rfl
/-- The ranges over functions in a body: parameters, assignment, body. -/
def rngs : Code → List (Array Nat × Code × Code)
  | .rangeFunc _ ps a b => [(ps, a, b)]
  | .seq a b => rngs a ++ rngs b
  | .block _ c => rngs c
  | .loop c => rngs c
  | .scope c => rngs c
  | .cond _ a b => rngs a ++ rngs b
  | _ => []
noncomputable def rngP (j : Nat) : Array Nat × Code × Code := match Tryd.f47.body with
  | some c => ((rngs c)[j]?).getD (#[], .skip, .skip)
  | none => (#[], .skip, .skip)
noncomputable def recP (j n : Nat) (τ : Nat → Option AV) : LoopRec := { fid := 47, dp := n + 1, nt := Tryd.f47.ntmps, hint := hH 47, tm := τ, params := (rngP j).1.toList, assign := (rngP j).2.1, body := (rngP j).2.2, pend := none }

theorem upd_of {τ : Nat → Option AV} {u : Nat} {a : Option AV} (h : τ u = a) : τ = updQ τ u a := by
  funext v
  unfold updQ
  cases hv : Nat.beq v u with
  | true => rw [Nat.eq_of_beq_eq_true hv, h]
  | false => rfl
theorem setPend_bx (l : Nat) (e : Option Ex) (g : G) : (setPend l e g).bx = g.bx := rfl
theorem beq_no {a b : Nat} (h : a ≠ b) : Nat.beq a b = false := Bool.eq_false_iff.2 fun e => h (Nat.eq_of_beq_eq_true e)
theorem take_modify {lq : List LoopRec} {l k : Nat} {f : LoopRec → LoopRec} (h : k < l) : (lq.modify l f).take (k + 1) = lq.take (k + 1) := by
  apply List.ext_getElem?
  intro j
  rw [List.getElem?_take, List.getElem?_take]
  by_cases hj : j < k + 1
  · rw [if_pos hj, if_pos hj, List.getElem?_modify]
    simp [show l ≠ j by omega]
  · rw [if_neg hj, if_neg hj]
theorem bodyW_ev {β : Bs} {f : Nat → Nat → Option Box} {n l m s s' : Nat} {τ : Nat → Option AV} (t : Tree) (ht : t.ok) (hτ2 : τ 2 = some (.ptr (n + 1) 2 0)) (hτ9 : τ 9 = some (.ptr (n + 1) 9 0)) (h2 : f (n + 1) 2 = some ⟨[.yld β.l], false⟩)
    (h9 : f (n + 1) 9 = some ⟨[.d (wrapF t)], false⟩) (hY : Yd β m s) (hW : ∀ x : Tree, x.bulk ≤ s' → (wrapN t x).bulk ≤ s) : Bd β f n l (recP 0 n τ) m s' (wrapN t) := by
  rw [show τ = updQ (updQ τ 9 (some (.ptr (n + 1) 9 0))) 2 (some (.ptr (n + 1) 2 0)) by rw [← upd_of hτ9, ← upd_of hτ2]]
  intro x acc c K r C q lq hx hm hB hrec hl hq hC hr hK
  have hc2 : C (n + 1) 2 = some ⟨[.yld β.l], false⟩ := by rw [hC, h2]
  have hc9 : C (n + 1) 9 = some ⟨[.d (wrapF t)], false⟩ := by rw [hC, h9]
  have hb : ∀ t, C (q + 1) t = none := fun t => hB.top _ _ (Nat.lt_succ_self _)
  have hbx : ∀ u j, demBx (.box (q + 1) u j) C = C := fun u j => funext fun d => funext fun t => hB.hi _ (Nat.le_refl _) d t
  have hbt : ∀ u j, demBx (.tmp (q + 1) u j) C = C := fun u j => funext fun d => funext fun t => hB.hi _ (Nat.le_refl _) d t
  have hn := Nat.beq_refl q
  have hn1 := Nat.beq_refl (q + 1)
  have hne := beq_no (show n + 1 ≠ q + 1 by omega)
  have hne0 := beq_no (show n ≠ q by omega)
  apply Evx.enter
  (conv => arg 1; ext i; whnf)
  repeat (simp only [hrec, hc2, hc9, setPend_bx, hne, hne0, hb, hbx, hbt, hn, hn1, demBx_set, hfz, dem_ptr, loadA_ptr, Bool.false_eq_true, if_false]; (conv => arg 1; ext i; whnf))
  refine Evx.call (wrapF_ev t x ht) ?_
  (conv => arg 1; ext i; whnf)
  repeat (simp only [hrec, hc2, hc9, setPend_bx, hne, hne0, hb, hbx, hbt, hn, hn1, demBx_set, hfz, dem_ptr, loadA_ptr, Bool.false_eq_true, if_false]; (conv => arg 1; ext i; whnf))
  have hBl : Base β ⟨C, q, lq.modify l fun r => { r with pend := some .normal }⟩ acc := hB.lps (take_modify hl) (List.length_modify ..)
  refine hY.use (x := (wrapN t x)) (fun _ => rfl) (fun _ => rfl) (hW x hx) hm hBl (by repeat (first | exact Off.refl | apply Off.set)) (by repeat (first | exact hB.pl | refine Pln.set (fun _ => rfl) ?_)) hr ?_
  intro B' ha hx'
  (conv => arg 1; ext i; whnf)
  exact Evx.congrK (fun _ => G_eq rfl rfl (setPend_back hrec rfl)) (hK (fun d t => if Nat.beq d (q + 1) then none else B' d t) ⟨rfl, rfl, hx'.up, hx'.lo⟩)
theorem bodyL_ev {β : Bs} {f : Nat → Nat → Option Box} {n l m s : Nat} {τ : Nat → Option AV} (hτ2 : τ 2 = some (.ptr (n + 1) 2 0)) (h2 : f (n + 1) 2 = some ⟨[.yld β.l], false⟩) (hY : Yd β m s) : Bd β f n l (recP 1 n τ) m s id := by
  rw [show τ = updQ τ 2 (some (.ptr (n + 1) 2 0)) from upd_of hτ2]
  intro x acc c K r C q lq hx hm hB hrec hl hq hC hr hK
  have hc2 : C (n + 1) 2 = some ⟨[.yld β.l], false⟩ := by rw [hC, h2]
  have hb : ∀ t, C (q + 1) t = none := fun t => hB.top _ _ (Nat.lt_succ_self _)
  have hbx : ∀ u j, demBx (.box (q + 1) u j) C = C := fun u j => funext fun d => funext fun t => hB.hi _ (Nat.le_refl _) d t
  have hbt : ∀ u j, demBx (.tmp (q + 1) u j) C = C := fun u j => funext fun d => funext fun t => hB.hi _ (Nat.le_refl _) d t
  have hn := Nat.beq_refl q
  have hn1 := Nat.beq_refl (q + 1)
  have hne := beq_no (show n + 1 ≠ q + 1 by omega)
  have hne0 := beq_no (show n ≠ q by omega)
  apply Evx.enter
  (conv => arg 1; ext i; whnf)
  repeat (simp only [hrec, hc2, setPend_bx, hne, hne0, hb, hbx, hbt, hn, hn1, demBx_set, hfz, dem_ptr, loadA_ptr, Bool.false_eq_true, if_false]; (conv => arg 1; ext i; whnf))
  have hBl : Base β ⟨C, q, lq.modify l fun r => { r with pend := some .normal }⟩ acc := hB.lps (take_modify hl) (List.length_modify ..)
  refine hY.use (x := x) (fun _ => rfl) (fun _ => rfl) hx hm hBl (by repeat (first | exact Off.refl | apply Off.set)) (by repeat (first | exact hB.pl | refine Pln.set (fun _ => rfl) ?_)) hr ?_
  intro B' ha hx'
  (conv => arg 1; ext i; whnf)
  exact Evx.congrK (fun _ => G_eq rfl rfl (setPend_back hrec rfl)) (hK (fun d t => if Nat.beq d (q + 1) then none else B' d t) ⟨rfl, rfl, hx'.up, hx'.lo⟩)

def PartsS (N : Nat) (t : Tree) : Prop := ∀ (β : Bs) (m s : Nat), Yd β m s → t.bulk ≤ s → s < 2 ^ 28 → ∀ (acc : List Tree), acc.length + (splitF N t).length ≤ m → ∀ (c : Nat) (K : Nat → Out → G → Option Out) (r : Out) (g : G), Same.same r r = true → Base β g acc →
    (∀ g', After β g g' (acc ++ splitF N t) → Evx (fun i => K i (.ret []) g') r) →
    Evx (fun i => runQ (pr i) (i - c) Out (.fn (.func 47)) [.yld β.l, .d (.at [.str t.fn, .sl 1 (ints t.vs), .sl 3 (trees t.ks)])] g (K i)) r

/-- A range over the parts of another tree. -/
theorem Bd.range {β : Bs} {f B : Nat → Nat → Option Box} {n N m s : Nat} {lp : List LoopRec} {rec : LoopRec} {acc : List Tree} {W : Tree → Tree} {k : Tree} {c : Nat} {args : Nat → List AV} {g : Nat → G} {K : Nat → Out → G → Option Out} {r : Out}
    (hbd : Bd β f n lp.length rec m s W) (ih : PartsS N k) (ea : ∀ i, args i = [.yld lp.length, .d (.at [.str k.fn, .sl 1 (ints k.vs), .sl 3 (trees k.ks)])]) (eg : ∀ i, g i = ⟨f, n + 1, lp ++ [rec]⟩)
    (hB : Base β ⟨B, n, lp⟩ acc) (ho : Off (n + 1) B f) (hp : Pln β.b0 f) (hk : k.bulk ≤ s) (hs : s < 2 ^ 28) (hm : acc.length + (splitF N k).length ≤ m) (hr : Same.same r r = true)
    (h : ∀ B' B2, B2 = (fun d t => if Nat.beq d (n + 1) then none else B' d t) → After β ⟨B, n, lp⟩ ⟨B2, n, lp⟩ (acc ++ (splitF N k).map W) → Base β ⟨B2, n, lp⟩ (acc ++ (splitF N k).map W) → Off (n + 1) B2 B' → Pln β.b0 B' → (∀ t, B' (n + 1) t = f (n + 1) t) → Evx (fun i => K i (.ret []) ⟨B', n + 1, lp ++ [rec]⟩) r) :
    Evx (fun i => runQ (pr i) (i - c) Out (.fn (.func 47)) (args i) (g i) (K i)) r := by
  have hdn : β.b0 ≤ n := hB.dp
  refine Evx.opn ea eg (ih (inB β f n lp rec acc W hp hdn) (m - acc.length) s (hbd.yd hB hp (by omega)) hk hs [] (by simp; omega) c K r _ hr (inB_start hB ho) ?_)
  rintro ⟨B', d', lp'⟩ ha
  obtain rfl : d' = n + 1 := ha.dp
  obtain rfl : lp' = lp ++ [rec] := ha.lp
  rw [List.nil_append] at ha
  have up : ∀ d t, β.b0 < d → B' d t = f d t := fun d t hd => by
    by_cases hq : d ≤ n + 1
    · have e := ha.lo d t hq
      rw [inB_hi hd] at e
      exact e
    · exact ha.up d t (by show n + 1 < d; omega)
  have lo : ∀ d t, d ≤ β.b0 → B' d t = β.BX (acc ++ (splitF N k).map W) d t := fun d t hd => by
    have e := ha.lo d t (by show d ≤ n + 1; omega)
    rw [inB_lo hd] at e
    exact e
  have ha2 : After β ⟨f, n + 1, lp⟩ ⟨B', n + 1, lp⟩ (acc ++ (splitF N k).map W) := ⟨rfl, rfl, up, lo⟩
  have hex := ha2.exit hB ho
  refine h B' _ rfl hex (hex.base hB) (fun d t hd => ?_) (fun i d t hd => by rw [demBx_at (up d t hd), up d t hd]; exact hp i d t hd) (fun t => up _ t (by omega))
  exact (if_neg (fun e => hd (Nat.eq_of_beq_eq_true e))).symm

/-! ### The loop over two sentences -/
theorem Evx.step {c : Nat} {hh : Nat → Hint} {idd : Nat → Nat} {B : Nat → St → (Ex → St → Option Out) → Option Out} {s : Nat → St} {K : Nat → Ex → St → Option Out} {r : Out} {fu : Nat → Nat} (s' : St) (hs : ∀ i, headSt (hh i) (idd i) (s i) = some s') (hf : ∀ i, fu i = i - c)
    (h : Evx (fun i => B i s' fun e s'' => match e with
      | .normal => loopN (hh i) (idd i) (B i) (i - (c + 1)) s'' (K i)
      | e => K i e s'') r) : Evx (fun i => loopN (hh i) (idd i) (B i) (fu i) (s i) (K i)) r := by
  obtain ⟨M, h⟩ := h
  refine ⟨M + c + 1, fun i hi => ?_⟩
  have h2 := h i (by omega)
  dsimp only at h2 ⊢
  rw [hf i, show i - c = (i - (c + 1)) + 1 by omega, loopN, hs i]
  exact h2

def hd16 (N l : Nat) (es : List (List D)) (j : Int) (bx : Nat → Nat → Option Box) (lp : List LoopRec) : St :=
  ⟨Abs.look [(2, some (.ptr N 2 0)), (117, some (.d (.sl 3 es))), (118, some (.d (.int .i64 2))), (119, some (.d (.int .i64 j))), (125, none)], fun t => [((2 : Nat), (none : Option Nat)), (117, none), (118, none), (119, none), (125, none)].any fun p => Nat.beq p.1 t && p.2.isSome, ⟨fun d t => if Nat.beq d N then Abs.look [(2, some ⟨[.yld l], false⟩)] t else bx d t, N, lp⟩⟩

theorem head16 {s : St} {N l : Nat} {es : List (List D)} {j : Int} {bx : Nat → Nat → Option Box} {lp : List LoopRec} (hg : s.g = ⟨bx, N, lp⟩) (h2 : s.tm 2 = some (.ptr N 2 0)) (h117 : (∃ i, s.tm 117 = some (.own i 3 es)) ∨ s.tm 117 = some (.d (.sl 3 es))) (h118 : s.tm 118 = some (.d (.int .i64 2)))
    (h119 : s.tm 119 = some (.d (.int .i64 j))) (h125 : s.tm 125 = none) (hb : bx N 2 = some ⟨[.yld l], false⟩) : headSt (hH 47) 16 s = some (hd16 N l es j bx lp) := by
  obtain ⟨tm, fr, g⟩ := s
  dsimp only at hg h2 h117 h118 h119 h125
  subst hg
  have e : (hH 47).loops 16 = some ([(2, none), (117, none), (118, none), (119, none), (125, none)], [(2, [])]) := rfl
  have hw : AV.within N [2] (.ptr N 2 0) = true := by simp [AV.within]
  unfold headSt
  rw [e]
  simp only [canonTm, canonBox, canonBox1, List.map_cons, List.map_nil, keptTm, keptBx, h2, h118, h119, h125, hb, hw]
  rcases h117 with ⟨i, h117⟩ | h117
  all_goals
    simp only [h117, AV.within, AV.withins, Bool.and_self, if_true, demAll]
    rfl

theorem Off.pick {N : Nat} {B f : Nat → Nat → Option Box} {X : Nat → Option Box} (h : Off N B f) : Off N B (fun d t => if Nat.beq d N then X t else f d t) := fun d t hd => by
  dsimp only
  rw [if_neg (fun e => hd (Nat.eq_of_beq_eq_true e))]
  exact h d t hd
theorem demBx_pick (i : Abs.Id) (N l : Nat) (f : Nat → Nat → Option Box) (d t : Nat) : demBx i (fun d t => if Nat.beq d N then Abs.look [(2, some ⟨[.yld l], false⟩)] t else f d t) d t = if Nat.beq d N then Abs.look [(2, some ⟨[.yld l], false⟩)] t else demBx i f d t := by
  unfold demBx
  dsimp only
  by_cases h : Nat.beq d N = true
  · rw [if_pos h, if_pos h]
    simp only [Abs.look]
    by_cases h2 : Nat.beq t 2 = true
    · rw [if_pos h2]; rfl
    · rw [if_neg h2]
  · rw [if_neg h, if_neg h]
theorem Pln.pick {b N l : Nat} {f : Nat → Nat → Option Box} (h : Pln b f) : Pln b (fun d t => if Nat.beq d N then Abs.look [(2, some ⟨[.yld l], false⟩)] t else f d t) := fun i d t hd => by
  rw [demBx_pick]
  dsimp only
  by_cases hq : Nat.beq d N = true
  · rw [if_pos hq, if_pos hq]
  · rw [if_neg hq, if_neg hq]; exact h i d t hd
theorem hi_of {β : Bs} {B B' : Nat → Nat → Option Box} {n : Nat} {lp : List LoopRec} {acc : List Tree} (hB : Base β ⟨B, n, lp⟩ acc) (ho : Off (n + 1) B B') (hp : Pln β.b0 B') (i : Abs.Id) (hi : hiId (n + 1) i) : demBx i B' = B' := by
  funext d t
  by_cases hd : β.b0 < d
  · exact hp i d t hd
  · have h0 := hB.dp
    dsimp only at h0
    have e : B' d t = β.BX acc d t := by rw [ho d t (by omega)]; exact hB.lo d t (by omega)
    rw [demBx_at e, e]
    refine β.hi acc i ?_ d t (by omega)
    cases i <;> simp only [hiId] at hi ⊢ <;> omega
theorem After.trans {β : Bs} {g1 g2 g3 : G} {a b : List Tree} (h1 : After β g1 g2 a) (h2 : After β g2 g3 b) : After β g1 g3 b where
  dp := h2.dp.trans h1.dp
  lp := h2.lp.trans h1.lp
  up := fun d t hd => (h2.up d t hd).trans (h1.up d t hd)
  lo := h2.lo
theorem pop_pick {n : Nat} {f : Nat → Nat → Option Box} {X : Nat → Option Box} : (fun d t => if Nat.beq d (n + 1) then none else if Nat.beq d (n + 1) then X t else f d t) = fun d t => if Nat.beq d (n + 1) then none else f d t := by
  funext d t
  by_cases h : Nat.beq d (n + 1) = true
  · rw [if_pos h, if_pos h]
  · rw [if_neg h, if_neg h, if_neg h]

theorem parts_none {N : Nat} (ih : ∀ k, Tree.size k ≤ N → PartsS N k) (t : Tree) (hN : t.size ≤ N + 1) (hf : frameT t = none) : PartsS (N + 1) t := by
  rintro β m s hY hts hs acc hm c K r ⟨B, n, lp⟩ hr hB hK
  have ht : t.ok := by unfold Tree.ok; omega
  have hb : ∀ t, B (n + 1) t = none := fun t => hB.top _ _ (Nat.lt_succ_self _)
  have hbx : ∀ u j, demBx (.box (n + 1) u j) B = B := fun u j => funext fun d => funext fun t => hB.hi _ (Nat.le_refl _) d t
  have hbt : ∀ u j, demBx (.tmp (n + 1) u j) B = B := fun u j => funext fun d => funext fun t => hB.hi _ (Nat.le_refl _) d t
  have hn := Nat.beq_refl n
  have hn1 := Nat.beq_refl (n + 1)
  have ef := frame_ev t
  rw [hf] at ef
  apply Evx.enter
  (conv => arg 1; ext i; whnf)
  repeat (simp only [hb, hbx, hbt, hn, hn1, demBx_set, demBx_pick, hfz, dem_ptr, loadA_ptr, Bool.false_eq_true, if_false]; (conv => arg 1; ext i; whnf))
  refine Evx.call ef ?_
  have h2 : twoT t = none := twoT_none (by rw [hf]; intro s p e; cases e)
  (conv => arg 1; ext i; whnf)
  repeat (simp only [hb, hbx, hbt, hn, hn1, demBx_set, demBx_pick, hfz, dem_ptr, loadA_ptr, Bool.false_eq_true, if_false]; (conv => arg 1; ext i; whnf))
  refine Evx.bool (fun h1 => ?_) (fun h1 => ?_)
  · (conv => arg 1; ext i; whnf)
    repeat (simp only [hb, hbx, hbt, hn, hn1, demBx_set, demBx_pick, hfz, dem_ptr, loadA_ptr, Bool.false_eq_true, if_false]; (conv => arg 1; ext i; whnf))
    refine Evx.call (wrapper_ev t) ?_
    cases hw : wrapT t with
    | none =>
      simp only [wrapOut, hw]
      rw [splitF_one h2 hw] at hK hm
      (conv => arg 1; ext i; whnf)
      repeat (simp only [hb, hbx, hbt, hn, hn1, demBx_set, demBx_pick, hfz, dem_ptr, loadA_ptr, Bool.false_eq_true, if_false]; (conv => arg 1; ext i; whnf))
      refine Evx.call (copied_ev t ht) ?_
      (conv => arg 1; ext i; whnf)
      repeat (simp only [hb, hbx, hbt, hn, hn1, demBx_set, demBx_pick, hfz, dem_ptr, loadA_ptr, Bool.false_eq_true, if_false]; (conv => arg 1; ext i; whnf))
      refine hY.use (x := t) (fun _ => rfl) (fun _ => rfl) hts (by simp only [List.length_singleton] at hm; omega) hB (by repeat (first | exact Off.refl | apply Off.set)) (by repeat (first | exact hB.pl | refine Pln.set (fun _ => rfl) ?_)) hr ?_
      intro B' ha hx
      (conv => arg 1; ext i; whnf)
      exact Evx.congrK (fun _ => rfl) (hK _ hx)
    | some k =>
      simp only [wrapOut, hw]
      rw [splitF_wrap h2 hw] at hK hm
      rw [List.length_map] at hm
      obtain ⟨w1, w2⟩ := wrapT_some hw
      have k0 : t.ks[0]? = some k := by rw [w2]; rfl
      have hk1 := size_one w2
      have hk2 := bulk_one w2
      (conv => arg 1; ext i; whnf)
      repeat (simp only [hb, hbx, hbt, hn, hn1, demBx_set, demBx_pick, hfz, dem_ptr, loadA_ptr, Bool.false_eq_true, if_false]; (conv => arg 1; ext i; whnf))
      refine Evx.idx (m := 0) rfl (trees_get k0) ?_
      (conv => arg 1; ext i; whnf)
      repeat (simp only [hb, hbx, hbt, hn, hn1, demBx_set, demBx_pick, hfz, dem_ptr, loadA_ptr, Bool.false_eq_true, if_false]; (conv => arg 1; ext i; whnf))
      refine Evx.call (partsFn_ev k) ?_
      (conv => arg 1; ext i; whnf)
      repeat (simp only [hb, hbx, hbt, hn, hn1, demBx_set, demBx_pick, hfz, dem_ptr, loadA_ptr, Bool.false_eq_true, if_false]; (conv => arg 1; ext i; whnf))
      refine Bd.range (s := k.bulk) (W := wrapN t) (acc := acc) (bodyW_ev t ht ?_ ?_ ?_ ?_ hY ?_) (ih k (by omega)) (fun _ => rfl) (fun _ => rfl) hB ?_ ?_ (Nat.le_refl _) (by omega) hm hr ?_
      · kernel_rfl
      · kernel_rfl
      · simp [hn1, dems, dem]
      · simp [hn1, dems, dem]
      · intro x hx
        unfold wrapN
        rw [bulk_node, bulks_one]; omega
      · dsimp only
        repeat (first | exact Off.refl | apply Off.set)
      · dsimp only
        repeat (first | exact hB.pl | refine Pln.set (fun _ => rfl) ?_)
      · intro B' B2 hB2 ha hb2 ho2 hp2 hf2
        (conv => arg 1; ext i; whnf)
        simp only [List.getElem?_concat_length, List.take_left]
        (conv => arg 1; ext i; whnf)
        exact Evx.congrK (fun _ => G_eq hB2.symm rfl rfl) (hK ⟨B2, n, lp⟩ ha)
  · (conv => arg 1; ext i; whnf)
    repeat (simp only [hb, hbx, hbt, hn, hn1, demBx_set, demBx_pick, hfz, dem_ptr, loadA_ptr, Bool.false_eq_true, if_false]; (conv => arg 1; ext i; whnf))
    (conv => arg 1; ext i; whnf)
    repeat (simp only [hb, hbx, hbt, hn, hn1, demBx_set, demBx_pick, hfz, dem_ptr, loadA_ptr, Bool.false_eq_true, if_false]; (conv => arg 1; ext i; whnf))
    refine Evx.call (wrapper_ev t) ?_
    cases hw : wrapT t with
    | none =>
      simp only [wrapOut, hw]
      rw [splitF_one h2 hw] at hK hm
      (conv => arg 1; ext i; whnf)
      repeat (simp only [hb, hbx, hbt, hn, hn1, demBx_set, demBx_pick, hfz, dem_ptr, loadA_ptr, Bool.false_eq_true, if_false]; (conv => arg 1; ext i; whnf))
      refine Evx.call (copied_ev t ht) ?_
      (conv => arg 1; ext i; whnf)
      repeat (simp only [hb, hbx, hbt, hn, hn1, demBx_set, demBx_pick, hfz, dem_ptr, loadA_ptr, Bool.false_eq_true, if_false]; (conv => arg 1; ext i; whnf))
      refine hY.use (x := t) (fun _ => rfl) (fun _ => rfl) hts (by simp only [List.length_singleton] at hm; omega) hB (by repeat (first | exact Off.refl | apply Off.set)) (by repeat (first | exact hB.pl | refine Pln.set (fun _ => rfl) ?_)) hr ?_
      intro B' ha hx
      (conv => arg 1; ext i; whnf)
      exact Evx.congrK (fun _ => rfl) (hK _ hx)
    | some k =>
      simp only [wrapOut, hw]
      rw [splitF_wrap h2 hw] at hK hm
      rw [List.length_map] at hm
      obtain ⟨w1, w2⟩ := wrapT_some hw
      have k0 : t.ks[0]? = some k := by rw [w2]; rfl
      have hk1 := size_one w2
      have hk2 := bulk_one w2
      (conv => arg 1; ext i; whnf)
      repeat (simp only [hb, hbx, hbt, hn, hn1, demBx_set, demBx_pick, hfz, dem_ptr, loadA_ptr, Bool.false_eq_true, if_false]; (conv => arg 1; ext i; whnf))
      refine Evx.idx (m := 0) rfl (trees_get k0) ?_
      (conv => arg 1; ext i; whnf)
      repeat (simp only [hb, hbx, hbt, hn, hn1, demBx_set, demBx_pick, hfz, dem_ptr, loadA_ptr, Bool.false_eq_true, if_false]; (conv => arg 1; ext i; whnf))
      refine Evx.call (partsFn_ev k) ?_
      (conv => arg 1; ext i; whnf)
      repeat (simp only [hb, hbx, hbt, hn, hn1, demBx_set, demBx_pick, hfz, dem_ptr, loadA_ptr, Bool.false_eq_true, if_false]; (conv => arg 1; ext i; whnf))
      refine Bd.range (s := k.bulk) (W := wrapN t) (acc := acc) (bodyW_ev t ht ?_ ?_ ?_ ?_ hY ?_) (ih k (by omega)) (fun _ => rfl) (fun _ => rfl) hB ?_ ?_ (Nat.le_refl _) (by omega) hm hr ?_
      · kernel_rfl
      · kernel_rfl
      · simp [hn1, dems, dem]
      · simp [hn1, dems, dem]
      · intro x hx
        unfold wrapN
        rw [bulk_node, bulks_one]; omega
      · dsimp only
        repeat (first | exact Off.refl | apply Off.set)
      · dsimp only
        repeat (first | exact hB.pl | refine Pln.set (fun _ => rfl) ?_)
      · intro B' B2 hB2 ha hb2 ho2 hp2 hf2
        (conv => arg 1; ext i; whnf)
        simp only [List.getElem?_concat_length, List.take_left]
        (conv => arg 1; ext i; whnf)
        exact Evx.congrK (fun _ => G_eq hB2.symm rfl rfl) (hK ⟨B2, n, lp⟩ ha)
set_option maxHeartbeats 2000000 in
theorem parts_plain {N : Nat} (ih : ∀ k, Tree.size k ≤ N → PartsS N k) (t : Tree) (hN : t.size ≤ N + 1) {a b : Tree} (hf : frameT t = some (a, b)) (hp : t.fn = sAssert) : PartsS (N + 1) t := by
  rintro β m s hY hts hs acc hm c K r ⟨B, n, lp⟩ hr hB hK
  have ht : t.ok := by unfold Tree.ok; omega
  have hb : ∀ t, B (n + 1) t = none := fun t => hB.top _ _ (Nat.lt_succ_self _)
  have hbx : ∀ u j, demBx (.box (n + 1) u j) B = B := fun u j => funext fun d => funext fun t => hB.hi _ (Nat.le_refl _) d t
  have hbt : ∀ u j, demBx (.tmp (n + 1) u j) B = B := fun u j => funext fun d => funext fun t => hB.hi _ (Nat.le_refl _) d t
  have hn := Nat.beq_refl n
  have hn1 := Nat.beq_refl (n + 1)
  have ef := frame_ev t
  rw [hf] at ef
  apply Evx.enter
  (conv => arg 1; ext i; whnf)
  repeat (simp only [hb, hbx, hbt, hn, hn1, demBx_set, demBx_pick, hfz, dem_ptr, loadA_ptr, Bool.false_eq_true, if_false]; (conv => arg 1; ext i; whnf))
  refine Evx.call ef ?_
  obtain ⟨f1, f2⟩ := frameT_some hf
  have hw : wrapT t = none := wrapT_none (.inl (frame_wrap4 f1))
  have e1 : plainF t.fn = true := by rw [hp]; decide
  (conv => arg 1; ext i; whnf)
  repeat (simp only [hb, hbx, hbt, hn, hn1, demBx_set, demBx_pick, hfz, dem_ptr, loadA_ptr, Bool.false_eq_true, if_false]; (conv => arg 1; ext i; whnf))
  refine Evx.bool (fun h1 => ?_) (fun h1 => absurd hp (seq_ne.1 h1))
  (conv => arg 1; ext i; whnf)
  repeat (simp only [hb, hbx, hbt, hn, hn1, demBx_set, demBx_pick, hfz, dem_ptr, loadA_ptr, Bool.false_eq_true, if_false]; (conv => arg 1; ext i; whnf))
  refine Evx.call (wrapper_ev t) ?_
  simp only [wrapOut, hw]
  (conv => arg 1; ext i; whnf)
  repeat (simp only [hb, hbx, hbt, hn, hn1, demBx_set, demBx_pick, hfz, dem_ptr, loadA_ptr, Bool.false_eq_true, if_false]; (conv => arg 1; ext i; whnf))
  refine Evx.bool (fun h3 => ?_) (fun h3 => ?_)
  · have e3 := seq_iff.1 h3
    (conv => arg 1; ext i; whnf)
    repeat (simp only [hb, hbx, hbt, hn, hn1, demBx_set, demBx_pick, hfz, dem_ptr, loadA_ptr, Bool.false_eq_true, if_false]; (conv => arg 1; ext i; whnf))
    refine Evx.bool (fun h4 => ?_) (fun h4 => ?_)
    · have h4 := hold_true.1 h4
      simp only [trees_len, beq_iff_eq] at h4
      obtain ⟨x, y, hxy⟩ := two_of (ks := a.ks) (by omega)
      have h2 := twoT_both hf e3 hxy
      rw [splitF_two h2] at hK hm
      rw [List.length_append] at hm
      obtain ⟨l1, l2, l3, l4⟩ := two_less h2
      (conv => arg 1; ext i; whnf)
      repeat (simp only [hb, hbx, hbt, hn, hn1, demBx_set, demBx_pick, hfz, dem_ptr, loadA_ptr, Bool.false_eq_true, if_false]; (conv => arg 1; ext i; whnf))
      refine Evx.idx (m := 0) rfl (trees_get (ts := a.ks) (i := 0) (t := x) (by rw [hxy]; rfl)) ?_
      (conv => arg 1; ext i; whnf)
      repeat (simp only [hb, hbx, hbt, hn, hn1, demBx_set, demBx_pick, hfz, dem_ptr, loadA_ptr, Bool.false_eq_true, if_false]; (conv => arg 1; ext i; whnf))
      refine Evx.call (again_ev t x b ht) ?_
      (conv => arg 1; ext i; whnf)
      repeat (simp only [hb, hbx, hbt, hn, hn1, demBx_set, demBx_pick, hfz, dem_ptr, loadA_ptr, Bool.false_eq_true, if_false]; (conv => arg 1; ext i; whnf))
      refine Evx.idx (m := 1) rfl (trees_get (ts := a.ks) (i := 1) (t := y) (by rw [hxy]; rfl)) ?_
      (conv => arg 1; ext i; whnf)
      repeat (simp only [hb, hbx, hbt, hn, hn1, demBx_set, demBx_pick, hfz, dem_ptr, loadA_ptr, Bool.false_eq_true, if_false]; (conv => arg 1; ext i; whnf))
      refine Evx.call (again_ev t y b ht) ?_
      (conv => arg 1; ext i; whnf)
      repeat (simp only [hb, hbx, hbt, hn, hn1, demBx_set, demBx_pick, hfz, dem_ptr, loadA_ptr, Bool.false_eq_true, if_false]; (conv => arg 1; ext i; whnf))
      refine Evx.step (c := 0) (hd16 (n + 1) β.l _ 0 _ lp) (fun _ => head16 rfl rfl (.inl ⟨_, rfl⟩) rfl rfl rfl (by simp [hn1, dems, dem])) (fun _ => rfl) ?_
      (conv => arg 1; ext i; whnf)
      repeat (simp only [hb, hbx, hbt, hn, hn1, demBx_set, demBx_pick, hfz, dem_ptr, loadA_ptr, Bool.false_eq_true, if_false]; (conv => arg 1; ext i; whnf))
      refine Evx.bool (fun g1 => ?_) (fun g1 => absurd (hold_false.1 g1) (by decide))
      (conv => arg 1; ext i; whnf)
      repeat (simp only [hb, hbx, hbt, hn, hn1, demBx_set, demBx_pick, hfz, dem_ptr, loadA_ptr, Bool.false_eq_true, if_false]; (conv => arg 1; ext i; whnf))
      refine Evx.idx (m := 0) rfl rfl ?_
      (conv => arg 1; ext i; whnf)
      repeat (simp only [hb, hbx, hbt, hn, hn1, demBx_set, demBx_pick, hfz, dem_ptr, loadA_ptr, Bool.false_eq_true, if_false]; (conv => arg 1; ext i; whnf))
      refine Evx.call (partsFn_ev (againT t x b)) ?_
      (conv => arg 1; ext i; whnf)
      repeat (simp only [hb, hbx, hbt, hn, hn1, demBx_set, demBx_pick, hfz, dem_ptr, loadA_ptr, Bool.false_eq_true, if_false]; (conv => arg 1; ext i; whnf))
      refine Bd.range (s := s) (W := id) (acc := acc) (bodyL_ev (m := m) ?_ ?_ hY) (ih (againT t x b) (by omega)) (fun _ => rfl) (fun _ => rfl) hB ?_ ?_ (by omega) hs (by omega) hr ?_
      · kernel_rfl
      · simp [hn1, dems, dem, Abs.look]
      · dsimp only
        repeat (first | exact Off.refl | apply Off.set | apply Off.pick)
      · dsimp only
        repeat (first | exact hB.pl | refine Pln.set (fun _ => rfl) ?_ | refine Pln.pick ?_)
      intro B' B2 hB2 ha hb2 ho2 hp2 hf2
      rw [List.map_id] at ha hb2
      (conv => arg 1; ext i; whnf)
      simp only [List.getElem?_concat_length, List.take_left]
      (conv => arg 1; ext i; whnf)
      repeat (simp only [hb, hbx, hbt, hn, hn1, demBx_set, demBx_pick, hfz, dem_ptr, loadA_ptr, Bool.false_eq_true, if_false]; (conv => arg 1; ext i; whnf))
      refine Evx.int (n' := 1) (by decide) ?_
      have hbx : ∀ u j, demBx (.box (n + 1) u j) B' = B' := fun u j => hi_of hb2 ho2 hp2 _ (Nat.le_refl _)
      have hbt : ∀ u j, demBx (.tmp (n + 1) u j) B' = B' := fun u j => hi_of hb2 ho2 hp2 _ (Nat.le_refl _)
      have hf2' : B' (n + 1) 2 = some ⟨[.yld β.l], false⟩ := by rw [hf2]; simp [hn1, dems, dem, Abs.look]
      clear hf2
      (conv => arg 1; ext i; whnf)
      repeat (simp only [hb, hbx, hbt, hn, hn1, demBx_set, demBx_pick, hfz, dem_ptr, loadA_ptr, Bool.false_eq_true, if_false]; (conv => arg 1; ext i; whnf))
      refine Evx.step (c := 1) (hd16 (n + 1) β.l _ 1 B' lp) (fun _ => head16 rfl rfl (.inr rfl) rfl rfl rfl hf2') (fun _ => rfl) ?_
      (conv => arg 1; ext i; whnf)
      repeat (simp only [hb, hbx, hbt, hn, hn1, demBx_set, demBx_pick, hfz, dem_ptr, loadA_ptr, Bool.false_eq_true, if_false]; (conv => arg 1; ext i; whnf))
      refine Evx.bool (fun g2 => ?_) (fun g2 => absurd (hold_false.1 g2) (by decide))
      (conv => arg 1; ext i; whnf)
      repeat (simp only [hb, hbx, hbt, hn, hn1, demBx_set, demBx_pick, hfz, dem_ptr, loadA_ptr, Bool.false_eq_true, if_false]; (conv => arg 1; ext i; whnf))
      refine Evx.idx (m := 1) rfl rfl ?_
      (conv => arg 1; ext i; whnf)
      repeat (simp only [hb, hbx, hbt, hn, hn1, demBx_set, demBx_pick, hfz, dem_ptr, loadA_ptr, Bool.false_eq_true, if_false]; (conv => arg 1; ext i; whnf))
      refine Evx.call (partsFn_ev (againT t y b)) ?_
      (conv => arg 1; ext i; whnf)
      repeat (simp only [hb, hbx, hbt, hn, hn1, demBx_set, demBx_pick, hfz, dem_ptr, loadA_ptr, Bool.false_eq_true, if_false]; (conv => arg 1; ext i; whnf))
      refine Bd.range (s := s) (W := id) (B := B2) (acc := acc ++ splitF N (againT t x b)) (bodyL_ev (m := m) ?_ ?_ hY) (ih (againT t y b) (by omega)) (fun _ => rfl) (fun _ => rfl) hb2 ?_ ?_ (by omega) hs (by rw [List.length_append]; omega) hr ?_
      · kernel_rfl
      · simp [hn1, dems, dem, Abs.look]
      · dsimp only
        repeat (first | exact ho2 | apply Off.set | apply Off.pick)
      · dsimp only
        repeat (first | exact hp2 | refine Pln.set (fun _ => rfl) ?_ | refine Pln.pick ?_)
      intro B3 B4 hB4 ha4 hb4 ho4 hp4 hf4
      rw [List.map_id] at ha4 hb4
      (conv => arg 1; ext i; whnf)
      simp only [List.getElem?_concat_length, List.take_left]
      have hbx : ∀ u j, demBx (.box (n + 1) u j) B3 = B3 := fun u j => hi_of hb4 ho4 hp4 _ (Nat.le_refl _)
      have hbt : ∀ u j, demBx (.tmp (n + 1) u j) B3 = B3 := fun u j => hi_of hb4 ho4 hp4 _ (Nat.le_refl _)
      have hf4' : B3 (n + 1) 2 = some ⟨[.yld β.l], false⟩ := by rw [hf4]; simp [hn1, dems, dem, Abs.look]
      clear hf4
      (conv => arg 1; ext i; whnf)
      repeat (simp only [hb, hbx, hbt, hn, hn1, demBx_set, demBx_pick, hfz, dem_ptr, loadA_ptr, Bool.false_eq_true, if_false]; (conv => arg 1; ext i; whnf))
      refine Evx.int (n' := 2) (by decide) ?_
      (conv => arg 1; ext i; whnf)
      repeat (simp only [hb, hbx, hbt, hn, hn1, demBx_set, demBx_pick, hfz, dem_ptr, loadA_ptr, Bool.false_eq_true, if_false]; (conv => arg 1; ext i; whnf))
      refine Evx.step (c := 2) (hd16 (n + 1) β.l _ 2 B3 lp) (fun _ => head16 rfl rfl (.inr rfl) rfl rfl rfl hf4') (fun _ => rfl) ?_
      (conv => arg 1; ext i; whnf)
      repeat (simp only [hb, hbx, hbt, hn, hn1, demBx_set, demBx_pick, hfz, dem_ptr, loadA_ptr, Bool.false_eq_true, if_false]; (conv => arg 1; ext i; whnf))
      refine Evx.bool (fun g3 => absurd (hold_true.1 g3) (by decide)) (fun g3 => ?_)
      (conv => arg 1; ext i; whnf)
      repeat (simp only [hb, hbx, hbt, hn, hn1, demBx_set, demBx_pick, hfz, dem_ptr, loadA_ptr, Bool.false_eq_true, if_false]; (conv => arg 1; ext i; whnf))
      rw [List.append_assoc] at ha4
      refine Evx.congrK (fun _ => G_eq ?_ rfl rfl) (hK ⟨B4, n, lp⟩ (ha.trans ha4))
      rw [hB4]
      exact pop_pick
    · have h4 := hold_false.1 h4
      simp only [trees_len, beq_eq_false_iff_ne, ne_eq] at h4
      have hnb : ¬ (a.fn = sBoth ∧ a.ks.length = 2) := by intro hh; have := hh.2; omega
      (conv => arg 1; ext i; whnf)
      repeat (simp only [hb, hbx, hbt, hn, hn1, demBx_set, demBx_pick, hfz, dem_ptr, loadA_ptr, Bool.false_eq_true, if_false]; (conv => arg 1; ext i; whnf))
      refine Evx.bool (fun h5 => ?_) (fun h5 => ?_)
      · have e5 := seq_iff.1 h5
        (conv => arg 1; ext i; whnf)
        repeat (simp only [hb, hbx, hbt, hn, hn1, demBx_set, demBx_pick, hfz, dem_ptr, loadA_ptr, Bool.false_eq_true, if_false]; (conv => arg 1; ext i; whnf))
        refine Evx.bool (fun h6 => ?_) (fun h6 => ?_)
        · have e6 := seq_iff.1 h6
          (conv => arg 1; ext i; whnf)
          repeat (simp only [hb, hbx, hbt, hn, hn1, demBx_set, demBx_pick, hfz, dem_ptr, loadA_ptr, Bool.false_eq_true, if_false]; (conv => arg 1; ext i; whnf))
          refine Evx.bool (fun h7 => ?_) (fun h7 => ?_)
          · have h7 := hold_true.1 h7
            simp only [trees_len, beq_iff_eq] at h7
            obtain ⟨x, y, hxy⟩ := two_of (ks := b.ks) (by omega)
            have h2 := twoT_and hf hnb e1 e5 e6 hxy
            rw [splitF_two h2] at hK hm
            rw [List.length_append] at hm
            obtain ⟨l1, l2, l3, l4⟩ := two_less h2
            (conv => arg 1; ext i; whnf)
            repeat (simp only [hb, hbx, hbt, hn, hn1, demBx_set, demBx_pick, hfz, dem_ptr, loadA_ptr, Bool.false_eq_true, if_false]; (conv => arg 1; ext i; whnf))
            refine Evx.idx (m := 0) rfl (trees_get (ts := b.ks) (i := 0) (t := x) (by rw [hxy]; rfl)) ?_
            (conv => arg 1; ext i; whnf)
            repeat (simp only [hb, hbx, hbt, hn, hn1, demBx_set, demBx_pick, hfz, dem_ptr, loadA_ptr, Bool.false_eq_true, if_false]; (conv => arg 1; ext i; whnf))
            refine Evx.call (again_ev t a x ht) ?_
            (conv => arg 1; ext i; whnf)
            repeat (simp only [hb, hbx, hbt, hn, hn1, demBx_set, demBx_pick, hfz, dem_ptr, loadA_ptr, Bool.false_eq_true, if_false]; (conv => arg 1; ext i; whnf))
            refine Evx.idx (m := 1) rfl (trees_get (ts := b.ks) (i := 1) (t := y) (by rw [hxy]; rfl)) ?_
            (conv => arg 1; ext i; whnf)
            repeat (simp only [hb, hbx, hbt, hn, hn1, demBx_set, demBx_pick, hfz, dem_ptr, loadA_ptr, Bool.false_eq_true, if_false]; (conv => arg 1; ext i; whnf))
            refine Evx.call (again_ev t a y ht) ?_
            (conv => arg 1; ext i; whnf)
            repeat (simp only [hb, hbx, hbt, hn, hn1, demBx_set, demBx_pick, hfz, dem_ptr, loadA_ptr, Bool.false_eq_true, if_false]; (conv => arg 1; ext i; whnf))
            refine Evx.step (c := 0) (hd16 (n + 1) β.l _ 0 _ lp) (fun _ => head16 rfl rfl (.inl ⟨_, rfl⟩) rfl rfl rfl (by simp [hn1, dems, dem])) (fun _ => rfl) ?_
            (conv => arg 1; ext i; whnf)
            repeat (simp only [hb, hbx, hbt, hn, hn1, demBx_set, demBx_pick, hfz, dem_ptr, loadA_ptr, Bool.false_eq_true, if_false]; (conv => arg 1; ext i; whnf))
            refine Evx.bool (fun g1 => ?_) (fun g1 => absurd (hold_false.1 g1) (by decide))
            (conv => arg 1; ext i; whnf)
            repeat (simp only [hb, hbx, hbt, hn, hn1, demBx_set, demBx_pick, hfz, dem_ptr, loadA_ptr, Bool.false_eq_true, if_false]; (conv => arg 1; ext i; whnf))
            refine Evx.idx (m := 0) rfl rfl ?_
            (conv => arg 1; ext i; whnf)
            repeat (simp only [hb, hbx, hbt, hn, hn1, demBx_set, demBx_pick, hfz, dem_ptr, loadA_ptr, Bool.false_eq_true, if_false]; (conv => arg 1; ext i; whnf))
            refine Evx.call (partsFn_ev (againT t a x)) ?_
            (conv => arg 1; ext i; whnf)
            repeat (simp only [hb, hbx, hbt, hn, hn1, demBx_set, demBx_pick, hfz, dem_ptr, loadA_ptr, Bool.false_eq_true, if_false]; (conv => arg 1; ext i; whnf))
            refine Bd.range (s := s) (W := id) (acc := acc) (bodyL_ev (m := m) ?_ ?_ hY) (ih (againT t a x) (by omega)) (fun _ => rfl) (fun _ => rfl) hB ?_ ?_ (by omega) hs (by omega) hr ?_
            · kernel_rfl
            · simp [hn1, dems, dem, Abs.look]
            · dsimp only
              repeat (first | exact Off.refl | apply Off.set | apply Off.pick)
            · dsimp only
              repeat (first | exact hB.pl | refine Pln.set (fun _ => rfl) ?_ | refine Pln.pick ?_)
            intro B' B2 hB2 ha hb2 ho2 hp2 hf2
            rw [List.map_id] at ha hb2
            (conv => arg 1; ext i; whnf)
            simp only [List.getElem?_concat_length, List.take_left]
            (conv => arg 1; ext i; whnf)
            repeat (simp only [hb, hbx, hbt, hn, hn1, demBx_set, demBx_pick, hfz, dem_ptr, loadA_ptr, Bool.false_eq_true, if_false]; (conv => arg 1; ext i; whnf))
            refine Evx.int (n' := 1) (by decide) ?_
            have hbx : ∀ u j, demBx (.box (n + 1) u j) B' = B' := fun u j => hi_of hb2 ho2 hp2 _ (Nat.le_refl _)
            have hbt : ∀ u j, demBx (.tmp (n + 1) u j) B' = B' := fun u j => hi_of hb2 ho2 hp2 _ (Nat.le_refl _)
            have hf2' : B' (n + 1) 2 = some ⟨[.yld β.l], false⟩ := by rw [hf2]; simp [hn1, dems, dem, Abs.look]
            clear hf2
            (conv => arg 1; ext i; whnf)
            repeat (simp only [hb, hbx, hbt, hn, hn1, demBx_set, demBx_pick, hfz, dem_ptr, loadA_ptr, Bool.false_eq_true, if_false]; (conv => arg 1; ext i; whnf))
            refine Evx.step (c := 1) (hd16 (n + 1) β.l _ 1 B' lp) (fun _ => head16 rfl rfl (.inr rfl) rfl rfl rfl hf2') (fun _ => rfl) ?_
            (conv => arg 1; ext i; whnf)
            repeat (simp only [hb, hbx, hbt, hn, hn1, demBx_set, demBx_pick, hfz, dem_ptr, loadA_ptr, Bool.false_eq_true, if_false]; (conv => arg 1; ext i; whnf))
            refine Evx.bool (fun g2 => ?_) (fun g2 => absurd (hold_false.1 g2) (by decide))
            (conv => arg 1; ext i; whnf)
            repeat (simp only [hb, hbx, hbt, hn, hn1, demBx_set, demBx_pick, hfz, dem_ptr, loadA_ptr, Bool.false_eq_true, if_false]; (conv => arg 1; ext i; whnf))
            refine Evx.idx (m := 1) rfl rfl ?_
            (conv => arg 1; ext i; whnf)
            repeat (simp only [hb, hbx, hbt, hn, hn1, demBx_set, demBx_pick, hfz, dem_ptr, loadA_ptr, Bool.false_eq_true, if_false]; (conv => arg 1; ext i; whnf))
            refine Evx.call (partsFn_ev (againT t a y)) ?_
            (conv => arg 1; ext i; whnf)
            repeat (simp only [hb, hbx, hbt, hn, hn1, demBx_set, demBx_pick, hfz, dem_ptr, loadA_ptr, Bool.false_eq_true, if_false]; (conv => arg 1; ext i; whnf))
            refine Bd.range (s := s) (W := id) (B := B2) (acc := acc ++ splitF N (againT t a x)) (bodyL_ev (m := m) ?_ ?_ hY) (ih (againT t a y) (by omega)) (fun _ => rfl) (fun _ => rfl) hb2 ?_ ?_ (by omega) hs (by rw [List.length_append]; omega) hr ?_
            · kernel_rfl
            · simp [hn1, dems, dem, Abs.look]
            · dsimp only
              repeat (first | exact ho2 | apply Off.set | apply Off.pick)
            · dsimp only
              repeat (first | exact hp2 | refine Pln.set (fun _ => rfl) ?_ | refine Pln.pick ?_)
            intro B3 B4 hB4 ha4 hb4 ho4 hp4 hf4
            rw [List.map_id] at ha4 hb4
            (conv => arg 1; ext i; whnf)
            simp only [List.getElem?_concat_length, List.take_left]
            have hbx : ∀ u j, demBx (.box (n + 1) u j) B3 = B3 := fun u j => hi_of hb4 ho4 hp4 _ (Nat.le_refl _)
            have hbt : ∀ u j, demBx (.tmp (n + 1) u j) B3 = B3 := fun u j => hi_of hb4 ho4 hp4 _ (Nat.le_refl _)
            have hf4' : B3 (n + 1) 2 = some ⟨[.yld β.l], false⟩ := by rw [hf4]; simp [hn1, dems, dem, Abs.look]
            clear hf4
            (conv => arg 1; ext i; whnf)
            repeat (simp only [hb, hbx, hbt, hn, hn1, demBx_set, demBx_pick, hfz, dem_ptr, loadA_ptr, Bool.false_eq_true, if_false]; (conv => arg 1; ext i; whnf))
            refine Evx.int (n' := 2) (by decide) ?_
            (conv => arg 1; ext i; whnf)
            repeat (simp only [hb, hbx, hbt, hn, hn1, demBx_set, demBx_pick, hfz, dem_ptr, loadA_ptr, Bool.false_eq_true, if_false]; (conv => arg 1; ext i; whnf))
            refine Evx.step (c := 2) (hd16 (n + 1) β.l _ 2 B3 lp) (fun _ => head16 rfl rfl (.inr rfl) rfl rfl rfl hf4') (fun _ => rfl) ?_
            (conv => arg 1; ext i; whnf)
            repeat (simp only [hb, hbx, hbt, hn, hn1, demBx_set, demBx_pick, hfz, dem_ptr, loadA_ptr, Bool.false_eq_true, if_false]; (conv => arg 1; ext i; whnf))
            refine Evx.bool (fun g3 => absurd (hold_true.1 g3) (by decide)) (fun g3 => ?_)
            (conv => arg 1; ext i; whnf)
            repeat (simp only [hb, hbx, hbt, hn, hn1, demBx_set, demBx_pick, hfz, dem_ptr, loadA_ptr, Bool.false_eq_true, if_false]; (conv => arg 1; ext i; whnf))
            rw [List.append_assoc] at ha4
            refine Evx.congrK (fun _ => G_eq ?_ rfl rfl) (hK ⟨B4, n, lp⟩ (ha.trans ha4))
            rw [hB4]
            exact pop_pick
          · have h7 := hold_false.1 h7
            simp only [trees_len, beq_eq_false_iff_ne, ne_eq] at h7
            have h2 : twoT t = none := twoT_none (by intro s' p' e; rw [hf] at e; cases e; exact ⟨hnb, by (intro hh; have := hh.2.2.2; omega)⟩)
            rw [splitF_one h2 hw] at hK hm
            (conv => arg 1; ext i; whnf)
            repeat (simp only [hb, hbx, hbt, hn, hn1, demBx_set, demBx_pick, hfz, dem_ptr, loadA_ptr, Bool.false_eq_true, if_false]; (conv => arg 1; ext i; whnf))
            refine Evx.call (copied_ev t ht) ?_
            (conv => arg 1; ext i; whnf)
            repeat (simp only [hb, hbx, hbt, hn, hn1, demBx_set, demBx_pick, hfz, dem_ptr, loadA_ptr, Bool.false_eq_true, if_false]; (conv => arg 1; ext i; whnf))
            refine hY.use (x := t) (fun _ => rfl) (fun _ => rfl) hts (by simp only [List.length_singleton] at hm; omega) hB (by repeat (first | exact Off.refl | apply Off.set)) (by repeat (first | exact hB.pl | refine Pln.set (fun _ => rfl) ?_)) hr ?_
            intro B' ha hx
            (conv => arg 1; ext i; whnf)
            exact Evx.congrK (fun _ => rfl) (hK _ hx)
        · have e6 := seq_ne.1 h6
          have h2 : twoT t = none := twoT_none (by intro s' p' e; rw [hf] at e; cases e; exact ⟨hnb, by (intro hh; exact e6 hh.2.2.1)⟩)
          rw [splitF_one h2 hw] at hK hm
          (conv => arg 1; ext i; whnf)
          repeat (simp only [hb, hbx, hbt, hn, hn1, demBx_set, demBx_pick, hfz, dem_ptr, loadA_ptr, Bool.false_eq_true, if_false]; (conv => arg 1; ext i; whnf))
          refine Evx.call (copied_ev t ht) ?_
          (conv => arg 1; ext i; whnf)
          repeat (simp only [hb, hbx, hbt, hn, hn1, demBx_set, demBx_pick, hfz, dem_ptr, loadA_ptr, Bool.false_eq_true, if_false]; (conv => arg 1; ext i; whnf))
          refine hY.use (x := t) (fun _ => rfl) (fun _ => rfl) hts (by simp only [List.length_singleton] at hm; omega) hB (by repeat (first | exact Off.refl | apply Off.set)) (by repeat (first | exact hB.pl | refine Pln.set (fun _ => rfl) ?_)) hr ?_
          intro B' ha hx
          (conv => arg 1; ext i; whnf)
          exact Evx.congrK (fun _ => rfl) (hK _ hx)
      · have e5 := seq_ne.1 h5
        have h2 : twoT t = none := twoT_none (by intro s' p' e; rw [hf] at e; cases e; exact ⟨hnb, by (intro hh; exact e5 hh.2.1)⟩)
        rw [splitF_one h2 hw] at hK hm
        (conv => arg 1; ext i; whnf)
        repeat (simp only [hb, hbx, hbt, hn, hn1, demBx_set, demBx_pick, hfz, dem_ptr, loadA_ptr, Bool.false_eq_true, if_false]; (conv => arg 1; ext i; whnf))
        refine Evx.call (copied_ev t ht) ?_
        (conv => arg 1; ext i; whnf)
        repeat (simp only [hb, hbx, hbt, hn, hn1, demBx_set, demBx_pick, hfz, dem_ptr, loadA_ptr, Bool.false_eq_true, if_false]; (conv => arg 1; ext i; whnf))
        refine hY.use (x := t) (fun _ => rfl) (fun _ => rfl) hts (by simp only [List.length_singleton] at hm; omega) hB (by repeat (first | exact Off.refl | apply Off.set)) (by repeat (first | exact hB.pl | refine Pln.set (fun _ => rfl) ?_)) hr ?_
        intro B' ha hx
        (conv => arg 1; ext i; whnf)
        exact Evx.congrK (fun _ => rfl) (hK _ hx)
  · have e3 := seq_ne.1 h3
    have hnb : ¬ (a.fn = sBoth ∧ a.ks.length = 2) := fun hh => e3 hh.1
    (conv => arg 1; ext i; whnf)
    repeat (simp only [hb, hbx, hbt, hn, hn1, demBx_set, demBx_pick, hfz, dem_ptr, loadA_ptr, Bool.false_eq_true, if_false]; (conv => arg 1; ext i; whnf))
    refine Evx.bool (fun h5 => ?_) (fun h5 => ?_)
    · have e5 := seq_iff.1 h5
      (conv => arg 1; ext i; whnf)
      repeat (simp only [hb, hbx, hbt, hn, hn1, demBx_set, demBx_pick, hfz, dem_ptr, loadA_ptr, Bool.false_eq_true, if_false]; (conv => arg 1; ext i; whnf))
      refine Evx.bool (fun h6 => ?_) (fun h6 => ?_)
      · have e6 := seq_iff.1 h6
        (conv => arg 1; ext i; whnf)
        repeat (simp only [hb, hbx, hbt, hn, hn1, demBx_set, demBx_pick, hfz, dem_ptr, loadA_ptr, Bool.false_eq_true, if_false]; (conv => arg 1; ext i; whnf))
        refine Evx.bool (fun h7 => ?_) (fun h7 => ?_)
        · have h7 := hold_true.1 h7
          simp only [trees_len, beq_iff_eq] at h7
          obtain ⟨x, y, hxy⟩ := two_of (ks := b.ks) (by omega)
          have h2 := twoT_and hf hnb e1 e5 e6 hxy
          rw [splitF_two h2] at hK hm
          rw [List.length_append] at hm
          obtain ⟨l1, l2, l3, l4⟩ := two_less h2
          (conv => arg 1; ext i; whnf)
          repeat (simp only [hb, hbx, hbt, hn, hn1, demBx_set, demBx_pick, hfz, dem_ptr, loadA_ptr, Bool.false_eq_true, if_false]; (conv => arg 1; ext i; whnf))
          refine Evx.idx (m := 0) rfl (trees_get (ts := b.ks) (i := 0) (t := x) (by rw [hxy]; rfl)) ?_
          (conv => arg 1; ext i; whnf)
          repeat (simp only [hb, hbx, hbt, hn, hn1, demBx_set, demBx_pick, hfz, dem_ptr, loadA_ptr, Bool.false_eq_true, if_false]; (conv => arg 1; ext i; whnf))
          refine Evx.call (again_ev t a x ht) ?_
          (conv => arg 1; ext i; whnf)
          repeat (simp only [hb, hbx, hbt, hn, hn1, demBx_set, demBx_pick, hfz, dem_ptr, loadA_ptr, Bool.false_eq_true, if_false]; (conv => arg 1; ext i; whnf))
          refine Evx.idx (m := 1) rfl (trees_get (ts := b.ks) (i := 1) (t := y) (by rw [hxy]; rfl)) ?_
          (conv => arg 1; ext i; whnf)
          repeat (simp only [hb, hbx, hbt, hn, hn1, demBx_set, demBx_pick, hfz, dem_ptr, loadA_ptr, Bool.false_eq_true, if_false]; (conv => arg 1; ext i; whnf))
          refine Evx.call (again_ev t a y ht) ?_
          (conv => arg 1; ext i; whnf)
          repeat (simp only [hb, hbx, hbt, hn, hn1, demBx_set, demBx_pick, hfz, dem_ptr, loadA_ptr, Bool.false_eq_true, if_false]; (conv => arg 1; ext i; whnf))
          refine Evx.step (c := 0) (hd16 (n + 1) β.l _ 0 _ lp) (fun _ => head16 rfl rfl (.inl ⟨_, rfl⟩) rfl rfl rfl (by simp [hn1, dems, dem])) (fun _ => rfl) ?_
          (conv => arg 1; ext i; whnf)
          repeat (simp only [hb, hbx, hbt, hn, hn1, demBx_set, demBx_pick, hfz, dem_ptr, loadA_ptr, Bool.false_eq_true, if_false]; (conv => arg 1; ext i; whnf))
          refine Evx.bool (fun g1 => ?_) (fun g1 => absurd (hold_false.1 g1) (by decide))
          (conv => arg 1; ext i; whnf)
          repeat (simp only [hb, hbx, hbt, hn, hn1, demBx_set, demBx_pick, hfz, dem_ptr, loadA_ptr, Bool.false_eq_true, if_false]; (conv => arg 1; ext i; whnf))
          refine Evx.idx (m := 0) rfl rfl ?_
          (conv => arg 1; ext i; whnf)
          repeat (simp only [hb, hbx, hbt, hn, hn1, demBx_set, demBx_pick, hfz, dem_ptr, loadA_ptr, Bool.false_eq_true, if_false]; (conv => arg 1; ext i; whnf))
          refine Evx.call (partsFn_ev (againT t a x)) ?_
          (conv => arg 1; ext i; whnf)
          repeat (simp only [hb, hbx, hbt, hn, hn1, demBx_set, demBx_pick, hfz, dem_ptr, loadA_ptr, Bool.false_eq_true, if_false]; (conv => arg 1; ext i; whnf))
          refine Bd.range (s := s) (W := id) (acc := acc) (bodyL_ev (m := m) ?_ ?_ hY) (ih (againT t a x) (by omega)) (fun _ => rfl) (fun _ => rfl) hB ?_ ?_ (by omega) hs (by omega) hr ?_
          · kernel_rfl
          · simp [hn1, dems, dem, Abs.look]
          · dsimp only
            repeat (first | exact Off.refl | apply Off.set | apply Off.pick)
          · dsimp only
            repeat (first | exact hB.pl | refine Pln.set (fun _ => rfl) ?_ | refine Pln.pick ?_)
          intro B' B2 hB2 ha hb2 ho2 hp2 hf2
          rw [List.map_id] at ha hb2
          (conv => arg 1; ext i; whnf)
          simp only [List.getElem?_concat_length, List.take_left]
          (conv => arg 1; ext i; whnf)
          repeat (simp only [hb, hbx, hbt, hn, hn1, demBx_set, demBx_pick, hfz, dem_ptr, loadA_ptr, Bool.false_eq_true, if_false]; (conv => arg 1; ext i; whnf))
          refine Evx.int (n' := 1) (by decide) ?_
          have hbx : ∀ u j, demBx (.box (n + 1) u j) B' = B' := fun u j => hi_of hb2 ho2 hp2 _ (Nat.le_refl _)
          have hbt : ∀ u j, demBx (.tmp (n + 1) u j) B' = B' := fun u j => hi_of hb2 ho2 hp2 _ (Nat.le_refl _)
          have hf2' : B' (n + 1) 2 = some ⟨[.yld β.l], false⟩ := by rw [hf2]; simp [hn1, dems, dem, Abs.look]
          clear hf2
          (conv => arg 1; ext i; whnf)
          repeat (simp only [hb, hbx, hbt, hn, hn1, demBx_set, demBx_pick, hfz, dem_ptr, loadA_ptr, Bool.false_eq_true, if_false]; (conv => arg 1; ext i; whnf))
          refine Evx.step (c := 1) (hd16 (n + 1) β.l _ 1 B' lp) (fun _ => head16 rfl rfl (.inr rfl) rfl rfl rfl hf2') (fun _ => rfl) ?_
          (conv => arg 1; ext i; whnf)
          repeat (simp only [hb, hbx, hbt, hn, hn1, demBx_set, demBx_pick, hfz, dem_ptr, loadA_ptr, Bool.false_eq_true, if_false]; (conv => arg 1; ext i; whnf))
          refine Evx.bool (fun g2 => ?_) (fun g2 => absurd (hold_false.1 g2) (by decide))
          (conv => arg 1; ext i; whnf)
          repeat (simp only [hb, hbx, hbt, hn, hn1, demBx_set, demBx_pick, hfz, dem_ptr, loadA_ptr, Bool.false_eq_true, if_false]; (conv => arg 1; ext i; whnf))
          refine Evx.idx (m := 1) rfl rfl ?_
          (conv => arg 1; ext i; whnf)
          repeat (simp only [hb, hbx, hbt, hn, hn1, demBx_set, demBx_pick, hfz, dem_ptr, loadA_ptr, Bool.false_eq_true, if_false]; (conv => arg 1; ext i; whnf))
          refine Evx.call (partsFn_ev (againT t a y)) ?_
          (conv => arg 1; ext i; whnf)
          repeat (simp only [hb, hbx, hbt, hn, hn1, demBx_set, demBx_pick, hfz, dem_ptr, loadA_ptr, Bool.false_eq_true, if_false]; (conv => arg 1; ext i; whnf))
          refine Bd.range (s := s) (W := id) (B := B2) (acc := acc ++ splitF N (againT t a x)) (bodyL_ev (m := m) ?_ ?_ hY) (ih (againT t a y) (by omega)) (fun _ => rfl) (fun _ => rfl) hb2 ?_ ?_ (by omega) hs (by rw [List.length_append]; omega) hr ?_
          · kernel_rfl
          · simp [hn1, dems, dem, Abs.look]
          · dsimp only
            repeat (first | exact ho2 | apply Off.set | apply Off.pick)
          · dsimp only
            repeat (first | exact hp2 | refine Pln.set (fun _ => rfl) ?_ | refine Pln.pick ?_)
          intro B3 B4 hB4 ha4 hb4 ho4 hp4 hf4
          rw [List.map_id] at ha4 hb4
          (conv => arg 1; ext i; whnf)
          simp only [List.getElem?_concat_length, List.take_left]
          have hbx : ∀ u j, demBx (.box (n + 1) u j) B3 = B3 := fun u j => hi_of hb4 ho4 hp4 _ (Nat.le_refl _)
          have hbt : ∀ u j, demBx (.tmp (n + 1) u j) B3 = B3 := fun u j => hi_of hb4 ho4 hp4 _ (Nat.le_refl _)
          have hf4' : B3 (n + 1) 2 = some ⟨[.yld β.l], false⟩ := by rw [hf4]; simp [hn1, dems, dem, Abs.look]
          clear hf4
          (conv => arg 1; ext i; whnf)
          repeat (simp only [hb, hbx, hbt, hn, hn1, demBx_set, demBx_pick, hfz, dem_ptr, loadA_ptr, Bool.false_eq_true, if_false]; (conv => arg 1; ext i; whnf))
          refine Evx.int (n' := 2) (by decide) ?_
          (conv => arg 1; ext i; whnf)
          repeat (simp only [hb, hbx, hbt, hn, hn1, demBx_set, demBx_pick, hfz, dem_ptr, loadA_ptr, Bool.false_eq_true, if_false]; (conv => arg 1; ext i; whnf))
          refine Evx.step (c := 2) (hd16 (n + 1) β.l _ 2 B3 lp) (fun _ => head16 rfl rfl (.inr rfl) rfl rfl rfl hf4') (fun _ => rfl) ?_
          (conv => arg 1; ext i; whnf)
          repeat (simp only [hb, hbx, hbt, hn, hn1, demBx_set, demBx_pick, hfz, dem_ptr, loadA_ptr, Bool.false_eq_true, if_false]; (conv => arg 1; ext i; whnf))
          refine Evx.bool (fun g3 => absurd (hold_true.1 g3) (by decide)) (fun g3 => ?_)
          (conv => arg 1; ext i; whnf)
          repeat (simp only [hb, hbx, hbt, hn, hn1, demBx_set, demBx_pick, hfz, dem_ptr, loadA_ptr, Bool.false_eq_true, if_false]; (conv => arg 1; ext i; whnf))
          rw [List.append_assoc] at ha4
          refine Evx.congrK (fun _ => G_eq ?_ rfl rfl) (hK ⟨B4, n, lp⟩ (ha.trans ha4))
          rw [hB4]
          exact pop_pick
        · have h7 := hold_false.1 h7
          simp only [trees_len, beq_eq_false_iff_ne, ne_eq] at h7
          have h2 : twoT t = none := twoT_none (by intro s' p' e; rw [hf] at e; cases e; exact ⟨hnb, by (intro hh; have := hh.2.2.2; omega)⟩)
          rw [splitF_one h2 hw] at hK hm
          (conv => arg 1; ext i; whnf)
          repeat (simp only [hb, hbx, hbt, hn, hn1, demBx_set, demBx_pick, hfz, dem_ptr, loadA_ptr, Bool.false_eq_true, if_false]; (conv => arg 1; ext i; whnf))
          refine Evx.call (copied_ev t ht) ?_
          (conv => arg 1; ext i; whnf)
          repeat (simp only [hb, hbx, hbt, hn, hn1, demBx_set, demBx_pick, hfz, dem_ptr, loadA_ptr, Bool.false_eq_true, if_false]; (conv => arg 1; ext i; whnf))
          refine hY.use (x := t) (fun _ => rfl) (fun _ => rfl) hts (by simp only [List.length_singleton] at hm; omega) hB (by repeat (first | exact Off.refl | apply Off.set)) (by repeat (first | exact hB.pl | refine Pln.set (fun _ => rfl) ?_)) hr ?_
          intro B' ha hx
          (conv => arg 1; ext i; whnf)
          exact Evx.congrK (fun _ => rfl) (hK _ hx)
      · have e6 := seq_ne.1 h6
        have h2 : twoT t = none := twoT_none (by intro s' p' e; rw [hf] at e; cases e; exact ⟨hnb, by (intro hh; exact e6 hh.2.2.1)⟩)
        rw [splitF_one h2 hw] at hK hm
        (conv => arg 1; ext i; whnf)
        repeat (simp only [hb, hbx, hbt, hn, hn1, demBx_set, demBx_pick, hfz, dem_ptr, loadA_ptr, Bool.false_eq_true, if_false]; (conv => arg 1; ext i; whnf))
        refine Evx.call (copied_ev t ht) ?_
        (conv => arg 1; ext i; whnf)
        repeat (simp only [hb, hbx, hbt, hn, hn1, demBx_set, demBx_pick, hfz, dem_ptr, loadA_ptr, Bool.false_eq_true, if_false]; (conv => arg 1; ext i; whnf))
        refine hY.use (x := t) (fun _ => rfl) (fun _ => rfl) hts (by simp only [List.length_singleton] at hm; omega) hB (by repeat (first | exact Off.refl | apply Off.set)) (by repeat (first | exact hB.pl | refine Pln.set (fun _ => rfl) ?_)) hr ?_
        intro B' ha hx
        (conv => arg 1; ext i; whnf)
        exact Evx.congrK (fun _ => rfl) (hK _ hx)
    · have e5 := seq_ne.1 h5
      have h2 : twoT t = none := twoT_none (by intro s' p' e; rw [hf] at e; cases e; exact ⟨hnb, by (intro hh; exact e5 hh.2.1)⟩)
      rw [splitF_one h2 hw] at hK hm
      (conv => arg 1; ext i; whnf)
      repeat (simp only [hb, hbx, hbt, hn, hn1, demBx_set, demBx_pick, hfz, dem_ptr, loadA_ptr, Bool.false_eq_true, if_false]; (conv => arg 1; ext i; whnf))
      refine Evx.call (copied_ev t ht) ?_
      (conv => arg 1; ext i; whnf)
      repeat (simp only [hb, hbx, hbt, hn, hn1, demBx_set, demBx_pick, hfz, dem_ptr, loadA_ptr, Bool.false_eq_true, if_false]; (conv => arg 1; ext i; whnf))
      refine hY.use (x := t) (fun _ => rfl) (fun _ => rfl) hts (by simp only [List.length_singleton] at hm; omega) hB (by repeat (first | exact Off.refl | apply Off.set)) (by repeat (first | exact hB.pl | refine Pln.set (fun _ => rfl) ?_)) hr ?_
      intro B' ha hx
      (conv => arg 1; ext i; whnf)
      exact Evx.congrK (fun _ => rfl) (hK _ hx)
set_option maxHeartbeats 2000000 in
theorem parts_other {N : Nat} (ih : ∀ k, Tree.size k ≤ N → PartsS N k) (t : Tree) (hN : t.size ≤ N + 1) {a b : Tree} (hf : frameT t = some (a, b)) (hp : t.fn ≠ sAssert) : PartsS (N + 1) t := by
  rintro β m s hY hts hs acc hm c K r ⟨B, n, lp⟩ hr hB hK
  have ht : t.ok := by unfold Tree.ok; omega
  have hb : ∀ t, B (n + 1) t = none := fun t => hB.top _ _ (Nat.lt_succ_self _)
  have hbx : ∀ u j, demBx (.box (n + 1) u j) B = B := fun u j => funext fun d => funext fun t => hB.hi _ (Nat.le_refl _) d t
  have hbt : ∀ u j, demBx (.tmp (n + 1) u j) B = B := fun u j => funext fun d => funext fun t => hB.hi _ (Nat.le_refl _) d t
  have hn := Nat.beq_refl n
  have hn1 := Nat.beq_refl (n + 1)
  have ef := frame_ev t
  rw [hf] at ef
  apply Evx.enter
  (conv => arg 1; ext i; whnf)
  repeat (simp only [hb, hbx, hbt, hn, hn1, demBx_set, demBx_pick, hfz, dem_ptr, loadA_ptr, Bool.false_eq_true, if_false]; (conv => arg 1; ext i; whnf))
  refine Evx.call ef ?_
  obtain ⟨f1, f2⟩ := frameT_some hf
  have hw : wrapT t = none := wrapT_none (.inl (frame_wrap4 f1))
  (conv => arg 1; ext i; whnf)
  repeat (simp only [hb, hbx, hbt, hn, hn1, demBx_set, demBx_pick, hfz, dem_ptr, loadA_ptr, Bool.false_eq_true, if_false]; (conv => arg 1; ext i; whnf))
  refine Evx.bool (fun h1 => absurd (seq_iff.1 h1) hp) (fun h1 => ?_)
  (conv => arg 1; ext i; whnf)
  repeat (simp only [hb, hbx, hbt, hn, hn1, demBx_set, demBx_pick, hfz, dem_ptr, loadA_ptr, Bool.false_eq_true, if_false]; (conv => arg 1; ext i; whnf))
  (conv => arg 1; ext i; whnf)
  repeat (simp only [hb, hbx, hbt, hn, hn1, demBx_set, demBx_pick, hfz, dem_ptr, loadA_ptr, Bool.false_eq_true, if_false]; (conv => arg 1; ext i; whnf))
  refine Evx.call (wrapper_ev t) ?_
  simp only [wrapOut, hw]
  (conv => arg 1; ext i; whnf)
  repeat (simp only [hb, hbx, hbt, hn, hn1, demBx_set, demBx_pick, hfz, dem_ptr, loadA_ptr, Bool.false_eq_true, if_false]; (conv => arg 1; ext i; whnf))
  refine Evx.bool (fun h3 => ?_) (fun h3 => ?_)
  · have e3 := seq_iff.1 h3
    (conv => arg 1; ext i; whnf)
    repeat (simp only [hb, hbx, hbt, hn, hn1, demBx_set, demBx_pick, hfz, dem_ptr, loadA_ptr, Bool.false_eq_true, if_false]; (conv => arg 1; ext i; whnf))
    refine Evx.bool (fun h4 => ?_) (fun h4 => ?_)
    · have h4 := hold_true.1 h4
      simp only [trees_len, beq_iff_eq] at h4
      obtain ⟨x, y, hxy⟩ := two_of (ks := a.ks) (by omega)
      have h2 := twoT_both hf e3 hxy
      rw [splitF_two h2] at hK hm
      rw [List.length_append] at hm
      obtain ⟨l1, l2, l3, l4⟩ := two_less h2
      (conv => arg 1; ext i; whnf)
      repeat (simp only [hb, hbx, hbt, hn, hn1, demBx_set, demBx_pick, hfz, dem_ptr, loadA_ptr, Bool.false_eq_true, if_false]; (conv => arg 1; ext i; whnf))
      refine Evx.idx (m := 0) rfl (trees_get (ts := a.ks) (i := 0) (t := x) (by rw [hxy]; rfl)) ?_
      (conv => arg 1; ext i; whnf)
      repeat (simp only [hb, hbx, hbt, hn, hn1, demBx_set, demBx_pick, hfz, dem_ptr, loadA_ptr, Bool.false_eq_true, if_false]; (conv => arg 1; ext i; whnf))
      refine Evx.call (again_ev t x b ht) ?_
      (conv => arg 1; ext i; whnf)
      repeat (simp only [hb, hbx, hbt, hn, hn1, demBx_set, demBx_pick, hfz, dem_ptr, loadA_ptr, Bool.false_eq_true, if_false]; (conv => arg 1; ext i; whnf))
      refine Evx.idx (m := 1) rfl (trees_get (ts := a.ks) (i := 1) (t := y) (by rw [hxy]; rfl)) ?_
      (conv => arg 1; ext i; whnf)
      repeat (simp only [hb, hbx, hbt, hn, hn1, demBx_set, demBx_pick, hfz, dem_ptr, loadA_ptr, Bool.false_eq_true, if_false]; (conv => arg 1; ext i; whnf))
      refine Evx.call (again_ev t y b ht) ?_
      (conv => arg 1; ext i; whnf)
      repeat (simp only [hb, hbx, hbt, hn, hn1, demBx_set, demBx_pick, hfz, dem_ptr, loadA_ptr, Bool.false_eq_true, if_false]; (conv => arg 1; ext i; whnf))
      refine Evx.step (c := 0) (hd16 (n + 1) β.l _ 0 _ lp) (fun _ => head16 rfl rfl (.inl ⟨_, rfl⟩) rfl rfl rfl (by simp [hn1, dems, dem])) (fun _ => rfl) ?_
      (conv => arg 1; ext i; whnf)
      repeat (simp only [hb, hbx, hbt, hn, hn1, demBx_set, demBx_pick, hfz, dem_ptr, loadA_ptr, Bool.false_eq_true, if_false]; (conv => arg 1; ext i; whnf))
      refine Evx.bool (fun g1 => ?_) (fun g1 => absurd (hold_false.1 g1) (by decide))
      (conv => arg 1; ext i; whnf)
      repeat (simp only [hb, hbx, hbt, hn, hn1, demBx_set, demBx_pick, hfz, dem_ptr, loadA_ptr, Bool.false_eq_true, if_false]; (conv => arg 1; ext i; whnf))
      refine Evx.idx (m := 0) rfl rfl ?_
      (conv => arg 1; ext i; whnf)
      repeat (simp only [hb, hbx, hbt, hn, hn1, demBx_set, demBx_pick, hfz, dem_ptr, loadA_ptr, Bool.false_eq_true, if_false]; (conv => arg 1; ext i; whnf))
      refine Evx.call (partsFn_ev (againT t x b)) ?_
      (conv => arg 1; ext i; whnf)
      repeat (simp only [hb, hbx, hbt, hn, hn1, demBx_set, demBx_pick, hfz, dem_ptr, loadA_ptr, Bool.false_eq_true, if_false]; (conv => arg 1; ext i; whnf))
      refine Bd.range (s := s) (W := id) (acc := acc) (bodyL_ev (m := m) ?_ ?_ hY) (ih (againT t x b) (by omega)) (fun _ => rfl) (fun _ => rfl) hB ?_ ?_ (by omega) hs (by omega) hr ?_
      · kernel_rfl
      · simp [hn1, dems, dem, Abs.look]
      · dsimp only
        repeat (first | exact Off.refl | apply Off.set | apply Off.pick)
      · dsimp only
        repeat (first | exact hB.pl | refine Pln.set (fun _ => rfl) ?_ | refine Pln.pick ?_)
      intro B' B2 hB2 ha hb2 ho2 hp2 hf2
      rw [List.map_id] at ha hb2
      (conv => arg 1; ext i; whnf)
      simp only [List.getElem?_concat_length, List.take_left]
      (conv => arg 1; ext i; whnf)
      repeat (simp only [hb, hbx, hbt, hn, hn1, demBx_set, demBx_pick, hfz, dem_ptr, loadA_ptr, Bool.false_eq_true, if_false]; (conv => arg 1; ext i; whnf))
      refine Evx.int (n' := 1) (by decide) ?_
      have hbx : ∀ u j, demBx (.box (n + 1) u j) B' = B' := fun u j => hi_of hb2 ho2 hp2 _ (Nat.le_refl _)
      have hbt : ∀ u j, demBx (.tmp (n + 1) u j) B' = B' := fun u j => hi_of hb2 ho2 hp2 _ (Nat.le_refl _)
      have hf2' : B' (n + 1) 2 = some ⟨[.yld β.l], false⟩ := by rw [hf2]; simp [hn1, dems, dem, Abs.look]
      clear hf2
      (conv => arg 1; ext i; whnf)
      repeat (simp only [hb, hbx, hbt, hn, hn1, demBx_set, demBx_pick, hfz, dem_ptr, loadA_ptr, Bool.false_eq_true, if_false]; (conv => arg 1; ext i; whnf))
      refine Evx.step (c := 1) (hd16 (n + 1) β.l _ 1 B' lp) (fun _ => head16 rfl rfl (.inr rfl) rfl rfl rfl hf2') (fun _ => rfl) ?_
      (conv => arg 1; ext i; whnf)
      repeat (simp only [hb, hbx, hbt, hn, hn1, demBx_set, demBx_pick, hfz, dem_ptr, loadA_ptr, Bool.false_eq_true, if_false]; (conv => arg 1; ext i; whnf))
      refine Evx.bool (fun g2 => ?_) (fun g2 => absurd (hold_false.1 g2) (by decide))
      (conv => arg 1; ext i; whnf)
      repeat (simp only [hb, hbx, hbt, hn, hn1, demBx_set, demBx_pick, hfz, dem_ptr, loadA_ptr, Bool.false_eq_true, if_false]; (conv => arg 1; ext i; whnf))
      refine Evx.idx (m := 1) rfl rfl ?_
      (conv => arg 1; ext i; whnf)
      repeat (simp only [hb, hbx, hbt, hn, hn1, demBx_set, demBx_pick, hfz, dem_ptr, loadA_ptr, Bool.false_eq_true, if_false]; (conv => arg 1; ext i; whnf))
      refine Evx.call (partsFn_ev (againT t y b)) ?_
      (conv => arg 1; ext i; whnf)
      repeat (simp only [hb, hbx, hbt, hn, hn1, demBx_set, demBx_pick, hfz, dem_ptr, loadA_ptr, Bool.false_eq_true, if_false]; (conv => arg 1; ext i; whnf))
      refine Bd.range (s := s) (W := id) (B := B2) (acc := acc ++ splitF N (againT t x b)) (bodyL_ev (m := m) ?_ ?_ hY) (ih (againT t y b) (by omega)) (fun _ => rfl) (fun _ => rfl) hb2 ?_ ?_ (by omega) hs (by rw [List.length_append]; omega) hr ?_
      · kernel_rfl
      · simp [hn1, dems, dem, Abs.look]
      · dsimp only
        repeat (first | exact ho2 | apply Off.set | apply Off.pick)
      · dsimp only
        repeat (first | exact hp2 | refine Pln.set (fun _ => rfl) ?_ | refine Pln.pick ?_)
      intro B3 B4 hB4 ha4 hb4 ho4 hp4 hf4
      rw [List.map_id] at ha4 hb4
      (conv => arg 1; ext i; whnf)
      simp only [List.getElem?_concat_length, List.take_left]
      have hbx : ∀ u j, demBx (.box (n + 1) u j) B3 = B3 := fun u j => hi_of hb4 ho4 hp4 _ (Nat.le_refl _)
      have hbt : ∀ u j, demBx (.tmp (n + 1) u j) B3 = B3 := fun u j => hi_of hb4 ho4 hp4 _ (Nat.le_refl _)
      have hf4' : B3 (n + 1) 2 = some ⟨[.yld β.l], false⟩ := by rw [hf4]; simp [hn1, dems, dem, Abs.look]
      clear hf4
      (conv => arg 1; ext i; whnf)
      repeat (simp only [hb, hbx, hbt, hn, hn1, demBx_set, demBx_pick, hfz, dem_ptr, loadA_ptr, Bool.false_eq_true, if_false]; (conv => arg 1; ext i; whnf))
      refine Evx.int (n' := 2) (by decide) ?_
      (conv => arg 1; ext i; whnf)
      repeat (simp only [hb, hbx, hbt, hn, hn1, demBx_set, demBx_pick, hfz, dem_ptr, loadA_ptr, Bool.false_eq_true, if_false]; (conv => arg 1; ext i; whnf))
      refine Evx.step (c := 2) (hd16 (n + 1) β.l _ 2 B3 lp) (fun _ => head16 rfl rfl (.inr rfl) rfl rfl rfl hf4') (fun _ => rfl) ?_
      (conv => arg 1; ext i; whnf)
      repeat (simp only [hb, hbx, hbt, hn, hn1, demBx_set, demBx_pick, hfz, dem_ptr, loadA_ptr, Bool.false_eq_true, if_false]; (conv => arg 1; ext i; whnf))
      refine Evx.bool (fun g3 => absurd (hold_true.1 g3) (by decide)) (fun g3 => ?_)
      (conv => arg 1; ext i; whnf)
      repeat (simp only [hb, hbx, hbt, hn, hn1, demBx_set, demBx_pick, hfz, dem_ptr, loadA_ptr, Bool.false_eq_true, if_false]; (conv => arg 1; ext i; whnf))
      rw [List.append_assoc] at ha4
      refine Evx.congrK (fun _ => G_eq ?_ rfl rfl) (hK ⟨B4, n, lp⟩ (ha.trans ha4))
      rw [hB4]
      exact pop_pick
    · have h4 := hold_false.1 h4
      simp only [trees_len, beq_eq_false_iff_ne, ne_eq] at h4
      have hnb : ¬ (a.fn = sBoth ∧ a.ks.length = 2) := by intro hh; have := hh.2; omega
      (conv => arg 1; ext i; whnf)
      repeat (simp only [hb, hbx, hbt, hn, hn1, demBx_set, demBx_pick, hfz, dem_ptr, loadA_ptr, Bool.false_eq_true, if_false]; (conv => arg 1; ext i; whnf))
      refine Evx.bool (fun h8 => ?_) (fun h8 => ?_)
      · have e1 : plainF t.fn = true := by have := seq_iff.1 h8; rw [this]; decide
        (conv => arg 1; ext i; whnf)
        repeat (simp only [hb, hbx, hbt, hn, hn1, demBx_set, demBx_pick, hfz, dem_ptr, loadA_ptr, Bool.false_eq_true, if_false]; (conv => arg 1; ext i; whnf))
        refine Evx.bool (fun h5 => ?_) (fun h5 => ?_)
        · have e5 := seq_iff.1 h5
          (conv => arg 1; ext i; whnf)
          repeat (simp only [hb, hbx, hbt, hn, hn1, demBx_set, demBx_pick, hfz, dem_ptr, loadA_ptr, Bool.false_eq_true, if_false]; (conv => arg 1; ext i; whnf))
          refine Evx.bool (fun h6 => ?_) (fun h6 => ?_)
          · have e6 := seq_iff.1 h6
            (conv => arg 1; ext i; whnf)
            repeat (simp only [hb, hbx, hbt, hn, hn1, demBx_set, demBx_pick, hfz, dem_ptr, loadA_ptr, Bool.false_eq_true, if_false]; (conv => arg 1; ext i; whnf))
            refine Evx.bool (fun h7 => ?_) (fun h7 => ?_)
            · have h7 := hold_true.1 h7
              simp only [trees_len, beq_iff_eq] at h7
              obtain ⟨x, y, hxy⟩ := two_of (ks := b.ks) (by omega)
              have h2 := twoT_and hf hnb e1 e5 e6 hxy
              rw [splitF_two h2] at hK hm
              rw [List.length_append] at hm
              obtain ⟨l1, l2, l3, l4⟩ := two_less h2
              (conv => arg 1; ext i; whnf)
              repeat (simp only [hb, hbx, hbt, hn, hn1, demBx_set, demBx_pick, hfz, dem_ptr, loadA_ptr, Bool.false_eq_true, if_false]; (conv => arg 1; ext i; whnf))
              refine Evx.idx (m := 0) rfl (trees_get (ts := b.ks) (i := 0) (t := x) (by rw [hxy]; rfl)) ?_
              (conv => arg 1; ext i; whnf)
              repeat (simp only [hb, hbx, hbt, hn, hn1, demBx_set, demBx_pick, hfz, dem_ptr, loadA_ptr, Bool.false_eq_true, if_false]; (conv => arg 1; ext i; whnf))
              refine Evx.call (again_ev t a x ht) ?_
              (conv => arg 1; ext i; whnf)
              repeat (simp only [hb, hbx, hbt, hn, hn1, demBx_set, demBx_pick, hfz, dem_ptr, loadA_ptr, Bool.false_eq_true, if_false]; (conv => arg 1; ext i; whnf))
              refine Evx.idx (m := 1) rfl (trees_get (ts := b.ks) (i := 1) (t := y) (by rw [hxy]; rfl)) ?_
              (conv => arg 1; ext i; whnf)
              repeat (simp only [hb, hbx, hbt, hn, hn1, demBx_set, demBx_pick, hfz, dem_ptr, loadA_ptr, Bool.false_eq_true, if_false]; (conv => arg 1; ext i; whnf))
              refine Evx.call (again_ev t a y ht) ?_
              (conv => arg 1; ext i; whnf)
              repeat (simp only [hb, hbx, hbt, hn, hn1, demBx_set, demBx_pick, hfz, dem_ptr, loadA_ptr, Bool.false_eq_true, if_false]; (conv => arg 1; ext i; whnf))
              refine Evx.step (c := 0) (hd16 (n + 1) β.l _ 0 _ lp) (fun _ => head16 rfl rfl (.inl ⟨_, rfl⟩) rfl rfl rfl (by simp [hn1, dems, dem])) (fun _ => rfl) ?_
              (conv => arg 1; ext i; whnf)
              repeat (simp only [hb, hbx, hbt, hn, hn1, demBx_set, demBx_pick, hfz, dem_ptr, loadA_ptr, Bool.false_eq_true, if_false]; (conv => arg 1; ext i; whnf))
              refine Evx.bool (fun g1 => ?_) (fun g1 => absurd (hold_false.1 g1) (by decide))
              (conv => arg 1; ext i; whnf)
              repeat (simp only [hb, hbx, hbt, hn, hn1, demBx_set, demBx_pick, hfz, dem_ptr, loadA_ptr, Bool.false_eq_true, if_false]; (conv => arg 1; ext i; whnf))
              refine Evx.idx (m := 0) rfl rfl ?_
              (conv => arg 1; ext i; whnf)
              repeat (simp only [hb, hbx, hbt, hn, hn1, demBx_set, demBx_pick, hfz, dem_ptr, loadA_ptr, Bool.false_eq_true, if_false]; (conv => arg 1; ext i; whnf))
              refine Evx.call (partsFn_ev (againT t a x)) ?_
              (conv => arg 1; ext i; whnf)
              repeat (simp only [hb, hbx, hbt, hn, hn1, demBx_set, demBx_pick, hfz, dem_ptr, loadA_ptr, Bool.false_eq_true, if_false]; (conv => arg 1; ext i; whnf))
              refine Bd.range (s := s) (W := id) (acc := acc) (bodyL_ev (m := m) ?_ ?_ hY) (ih (againT t a x) (by omega)) (fun _ => rfl) (fun _ => rfl) hB ?_ ?_ (by omega) hs (by omega) hr ?_
              · kernel_rfl
              · simp [hn1, dems, dem, Abs.look]
              · dsimp only
                repeat (first | exact Off.refl | apply Off.set | apply Off.pick)
              · dsimp only
                repeat (first | exact hB.pl | refine Pln.set (fun _ => rfl) ?_ | refine Pln.pick ?_)
              intro B' B2 hB2 ha hb2 ho2 hp2 hf2
              rw [List.map_id] at ha hb2
              (conv => arg 1; ext i; whnf)
              simp only [List.getElem?_concat_length, List.take_left]
              (conv => arg 1; ext i; whnf)
              repeat (simp only [hb, hbx, hbt, hn, hn1, demBx_set, demBx_pick, hfz, dem_ptr, loadA_ptr, Bool.false_eq_true, if_false]; (conv => arg 1; ext i; whnf))
              refine Evx.int (n' := 1) (by decide) ?_
              have hbx : ∀ u j, demBx (.box (n + 1) u j) B' = B' := fun u j => hi_of hb2 ho2 hp2 _ (Nat.le_refl _)
              have hbt : ∀ u j, demBx (.tmp (n + 1) u j) B' = B' := fun u j => hi_of hb2 ho2 hp2 _ (Nat.le_refl _)
              have hf2' : B' (n + 1) 2 = some ⟨[.yld β.l], false⟩ := by rw [hf2]; simp [hn1, dems, dem, Abs.look]
              clear hf2
              (conv => arg 1; ext i; whnf)
              repeat (simp only [hb, hbx, hbt, hn, hn1, demBx_set, demBx_pick, hfz, dem_ptr, loadA_ptr, Bool.false_eq_true, if_false]; (conv => arg 1; ext i; whnf))
              refine Evx.step (c := 1) (hd16 (n + 1) β.l _ 1 B' lp) (fun _ => head16 rfl rfl (.inr rfl) rfl rfl rfl hf2') (fun _ => rfl) ?_
              (conv => arg 1; ext i; whnf)
              repeat (simp only [hb, hbx, hbt, hn, hn1, demBx_set, demBx_pick, hfz, dem_ptr, loadA_ptr, Bool.false_eq_true, if_false]; (conv => arg 1; ext i; whnf))
              refine Evx.bool (fun g2 => ?_) (fun g2 => absurd (hold_false.1 g2) (by decide))
              (conv => arg 1; ext i; whnf)
              repeat (simp only [hb, hbx, hbt, hn, hn1, demBx_set, demBx_pick, hfz, dem_ptr, loadA_ptr, Bool.false_eq_true, if_false]; (conv => arg 1; ext i; whnf))
              refine Evx.idx (m := 1) rfl rfl ?_
              (conv => arg 1; ext i; whnf)
              repeat (simp only [hb, hbx, hbt, hn, hn1, demBx_set, demBx_pick, hfz, dem_ptr, loadA_ptr, Bool.false_eq_true, if_false]; (conv => arg 1; ext i; whnf))
              refine Evx.call (partsFn_ev (againT t a y)) ?_
              (conv => arg 1; ext i; whnf)
              repeat (simp only [hb, hbx, hbt, hn, hn1, demBx_set, demBx_pick, hfz, dem_ptr, loadA_ptr, Bool.false_eq_true, if_false]; (conv => arg 1; ext i; whnf))
              refine Bd.range (s := s) (W := id) (B := B2) (acc := acc ++ splitF N (againT t a x)) (bodyL_ev (m := m) ?_ ?_ hY) (ih (againT t a y) (by omega)) (fun _ => rfl) (fun _ => rfl) hb2 ?_ ?_ (by omega) hs (by rw [List.length_append]; omega) hr ?_
              · kernel_rfl
              · simp [hn1, dems, dem, Abs.look]
              · dsimp only
                repeat (first | exact ho2 | apply Off.set | apply Off.pick)
              · dsimp only
                repeat (first | exact hp2 | refine Pln.set (fun _ => rfl) ?_ | refine Pln.pick ?_)
              intro B3 B4 hB4 ha4 hb4 ho4 hp4 hf4
              rw [List.map_id] at ha4 hb4
              (conv => arg 1; ext i; whnf)
              simp only [List.getElem?_concat_length, List.take_left]
              have hbx : ∀ u j, demBx (.box (n + 1) u j) B3 = B3 := fun u j => hi_of hb4 ho4 hp4 _ (Nat.le_refl _)
              have hbt : ∀ u j, demBx (.tmp (n + 1) u j) B3 = B3 := fun u j => hi_of hb4 ho4 hp4 _ (Nat.le_refl _)
              have hf4' : B3 (n + 1) 2 = some ⟨[.yld β.l], false⟩ := by rw [hf4]; simp [hn1, dems, dem, Abs.look]
              clear hf4
              (conv => arg 1; ext i; whnf)
              repeat (simp only [hb, hbx, hbt, hn, hn1, demBx_set, demBx_pick, hfz, dem_ptr, loadA_ptr, Bool.false_eq_true, if_false]; (conv => arg 1; ext i; whnf))
              refine Evx.int (n' := 2) (by decide) ?_
              (conv => arg 1; ext i; whnf)
              repeat (simp only [hb, hbx, hbt, hn, hn1, demBx_set, demBx_pick, hfz, dem_ptr, loadA_ptr, Bool.false_eq_true, if_false]; (conv => arg 1; ext i; whnf))
              refine Evx.step (c := 2) (hd16 (n + 1) β.l _ 2 B3 lp) (fun _ => head16 rfl rfl (.inr rfl) rfl rfl rfl hf4') (fun _ => rfl) ?_
              (conv => arg 1; ext i; whnf)
              repeat (simp only [hb, hbx, hbt, hn, hn1, demBx_set, demBx_pick, hfz, dem_ptr, loadA_ptr, Bool.false_eq_true, if_false]; (conv => arg 1; ext i; whnf))
              refine Evx.bool (fun g3 => absurd (hold_true.1 g3) (by decide)) (fun g3 => ?_)
              (conv => arg 1; ext i; whnf)
              repeat (simp only [hb, hbx, hbt, hn, hn1, demBx_set, demBx_pick, hfz, dem_ptr, loadA_ptr, Bool.false_eq_true, if_false]; (conv => arg 1; ext i; whnf))
              rw [List.append_assoc] at ha4
              refine Evx.congrK (fun _ => G_eq ?_ rfl rfl) (hK ⟨B4, n, lp⟩ (ha.trans ha4))
              rw [hB4]
              exact pop_pick
            · have h7 := hold_false.1 h7
              simp only [trees_len, beq_eq_false_iff_ne, ne_eq] at h7
              have h2 : twoT t = none := twoT_none (by intro s' p' e; rw [hf] at e; cases e; exact ⟨hnb, by (intro hh; have := hh.2.2.2; omega)⟩)
              rw [splitF_one h2 hw] at hK hm
              (conv => arg 1; ext i; whnf)
              repeat (simp only [hb, hbx, hbt, hn, hn1, demBx_set, demBx_pick, hfz, dem_ptr, loadA_ptr, Bool.false_eq_true, if_false]; (conv => arg 1; ext i; whnf))
              refine Evx.call (copied_ev t ht) ?_
              (conv => arg 1; ext i; whnf)
              repeat (simp only [hb, hbx, hbt, hn, hn1, demBx_set, demBx_pick, hfz, dem_ptr, loadA_ptr, Bool.false_eq_true, if_false]; (conv => arg 1; ext i; whnf))
              refine hY.use (x := t) (fun _ => rfl) (fun _ => rfl) hts (by simp only [List.length_singleton] at hm; omega) hB (by repeat (first | exact Off.refl | apply Off.set)) (by repeat (first | exact hB.pl | refine Pln.set (fun _ => rfl) ?_)) hr ?_
              intro B' ha hx
              (conv => arg 1; ext i; whnf)
              exact Evx.congrK (fun _ => rfl) (hK _ hx)
          · have e6 := seq_ne.1 h6
            have h2 : twoT t = none := twoT_none (by intro s' p' e; rw [hf] at e; cases e; exact ⟨hnb, by (intro hh; exact e6 hh.2.2.1)⟩)
            rw [splitF_one h2 hw] at hK hm
            (conv => arg 1; ext i; whnf)
            repeat (simp only [hb, hbx, hbt, hn, hn1, demBx_set, demBx_pick, hfz, dem_ptr, loadA_ptr, Bool.false_eq_true, if_false]; (conv => arg 1; ext i; whnf))
            refine Evx.call (copied_ev t ht) ?_
            (conv => arg 1; ext i; whnf)
            repeat (simp only [hb, hbx, hbt, hn, hn1, demBx_set, demBx_pick, hfz, dem_ptr, loadA_ptr, Bool.false_eq_true, if_false]; (conv => arg 1; ext i; whnf))
            refine hY.use (x := t) (fun _ => rfl) (fun _ => rfl) hts (by simp only [List.length_singleton] at hm; omega) hB (by repeat (first | exact Off.refl | apply Off.set)) (by repeat (first | exact hB.pl | refine Pln.set (fun _ => rfl) ?_)) hr ?_
            intro B' ha hx
            (conv => arg 1; ext i; whnf)
            exact Evx.congrK (fun _ => rfl) (hK _ hx)
        · have e5 := seq_ne.1 h5
          have h2 : twoT t = none := twoT_none (by intro s' p' e; rw [hf] at e; cases e; exact ⟨hnb, by (intro hh; exact e5 hh.2.1)⟩)
          rw [splitF_one h2 hw] at hK hm
          (conv => arg 1; ext i; whnf)
          repeat (simp only [hb, hbx, hbt, hn, hn1, demBx_set, demBx_pick, hfz, dem_ptr, loadA_ptr, Bool.false_eq_true, if_false]; (conv => arg 1; ext i; whnf))
          refine Evx.call (copied_ev t ht) ?_
          (conv => arg 1; ext i; whnf)
          repeat (simp only [hb, hbx, hbt, hn, hn1, demBx_set, demBx_pick, hfz, dem_ptr, loadA_ptr, Bool.false_eq_true, if_false]; (conv => arg 1; ext i; whnf))
          refine hY.use (x := t) (fun _ => rfl) (fun _ => rfl) hts (by simp only [List.length_singleton] at hm; omega) hB (by repeat (first | exact Off.refl | apply Off.set)) (by repeat (first | exact hB.pl | refine Pln.set (fun _ => rfl) ?_)) hr ?_
          intro B' ha hx
          (conv => arg 1; ext i; whnf)
          exact Evx.congrK (fun _ => rfl) (hK _ hx)
      · have e8 : plainF t.fn ≠ true := by
          have := seq_ne.1 h1
          have := seq_ne.1 h8
          simp_all [plainF, sAssert, sMust]
        have h2 : twoT t = none := twoT_none (by intro s' p' e; rw [hf] at e; cases e; exact ⟨hnb, by (intro hh; exact e8 hh.1)⟩)
        rw [splitF_one h2 hw] at hK hm
        (conv => arg 1; ext i; whnf)
        repeat (simp only [hb, hbx, hbt, hn, hn1, demBx_set, demBx_pick, hfz, dem_ptr, loadA_ptr, Bool.false_eq_true, if_false]; (conv => arg 1; ext i; whnf))
        refine Evx.call (copied_ev t ht) ?_
        (conv => arg 1; ext i; whnf)
        repeat (simp only [hb, hbx, hbt, hn, hn1, demBx_set, demBx_pick, hfz, dem_ptr, loadA_ptr, Bool.false_eq_true, if_false]; (conv => arg 1; ext i; whnf))
        refine hY.use (x := t) (fun _ => rfl) (fun _ => rfl) hts (by simp only [List.length_singleton] at hm; omega) hB (by repeat (first | exact Off.refl | apply Off.set)) (by repeat (first | exact hB.pl | refine Pln.set (fun _ => rfl) ?_)) hr ?_
        intro B' ha hx
        (conv => arg 1; ext i; whnf)
        exact Evx.congrK (fun _ => rfl) (hK _ hx)
  · have e3 := seq_ne.1 h3
    have hnb : ¬ (a.fn = sBoth ∧ a.ks.length = 2) := fun hh => e3 hh.1
    (conv => arg 1; ext i; whnf)
    repeat (simp only [hb, hbx, hbt, hn, hn1, demBx_set, demBx_pick, hfz, dem_ptr, loadA_ptr, Bool.false_eq_true, if_false]; (conv => arg 1; ext i; whnf))
    refine Evx.bool (fun h8 => ?_) (fun h8 => ?_)
    · have e1 : plainF t.fn = true := by have := seq_iff.1 h8; rw [this]; decide
      (conv => arg 1; ext i; whnf)
      repeat (simp only [hb, hbx, hbt, hn, hn1, demBx_set, demBx_pick, hfz, dem_ptr, loadA_ptr, Bool.false_eq_true, if_false]; (conv => arg 1; ext i; whnf))
      refine Evx.bool (fun h5 => ?_) (fun h5 => ?_)
      · have e5 := seq_iff.1 h5
        (conv => arg 1; ext i; whnf)
        repeat (simp only [hb, hbx, hbt, hn, hn1, demBx_set, demBx_pick, hfz, dem_ptr, loadA_ptr, Bool.false_eq_true, if_false]; (conv => arg 1; ext i; whnf))
        refine Evx.bool (fun h6 => ?_) (fun h6 => ?_)
        · have e6 := seq_iff.1 h6
          (conv => arg 1; ext i; whnf)
          repeat (simp only [hb, hbx, hbt, hn, hn1, demBx_set, demBx_pick, hfz, dem_ptr, loadA_ptr, Bool.false_eq_true, if_false]; (conv => arg 1; ext i; whnf))
          refine Evx.bool (fun h7 => ?_) (fun h7 => ?_)
          · have h7 := hold_true.1 h7
            simp only [trees_len, beq_iff_eq] at h7
            obtain ⟨x, y, hxy⟩ := two_of (ks := b.ks) (by omega)
            have h2 := twoT_and hf hnb e1 e5 e6 hxy
            rw [splitF_two h2] at hK hm
            rw [List.length_append] at hm
            obtain ⟨l1, l2, l3, l4⟩ := two_less h2
            (conv => arg 1; ext i; whnf)
            repeat (simp only [hb, hbx, hbt, hn, hn1, demBx_set, demBx_pick, hfz, dem_ptr, loadA_ptr, Bool.false_eq_true, if_false]; (conv => arg 1; ext i; whnf))
            refine Evx.idx (m := 0) rfl (trees_get (ts := b.ks) (i := 0) (t := x) (by rw [hxy]; rfl)) ?_
            (conv => arg 1; ext i; whnf)
            repeat (simp only [hb, hbx, hbt, hn, hn1, demBx_set, demBx_pick, hfz, dem_ptr, loadA_ptr, Bool.false_eq_true, if_false]; (conv => arg 1; ext i; whnf))
            refine Evx.call (again_ev t a x ht) ?_
            (conv => arg 1; ext i; whnf)
            repeat (simp only [hb, hbx, hbt, hn, hn1, demBx_set, demBx_pick, hfz, dem_ptr, loadA_ptr, Bool.false_eq_true, if_false]; (conv => arg 1; ext i; whnf))
            refine Evx.idx (m := 1) rfl (trees_get (ts := b.ks) (i := 1) (t := y) (by rw [hxy]; rfl)) ?_
            (conv => arg 1; ext i; whnf)
            repeat (simp only [hb, hbx, hbt, hn, hn1, demBx_set, demBx_pick, hfz, dem_ptr, loadA_ptr, Bool.false_eq_true, if_false]; (conv => arg 1; ext i; whnf))
            refine Evx.call (again_ev t a y ht) ?_
            (conv => arg 1; ext i; whnf)
            repeat (simp only [hb, hbx, hbt, hn, hn1, demBx_set, demBx_pick, hfz, dem_ptr, loadA_ptr, Bool.false_eq_true, if_false]; (conv => arg 1; ext i; whnf))
            refine Evx.step (c := 0) (hd16 (n + 1) β.l _ 0 _ lp) (fun _ => head16 rfl rfl (.inl ⟨_, rfl⟩) rfl rfl rfl (by simp [hn1, dems, dem])) (fun _ => rfl) ?_
            (conv => arg 1; ext i; whnf)
            repeat (simp only [hb, hbx, hbt, hn, hn1, demBx_set, demBx_pick, hfz, dem_ptr, loadA_ptr, Bool.false_eq_true, if_false]; (conv => arg 1; ext i; whnf))
            refine Evx.bool (fun g1 => ?_) (fun g1 => absurd (hold_false.1 g1) (by decide))
            (conv => arg 1; ext i; whnf)
            repeat (simp only [hb, hbx, hbt, hn, hn1, demBx_set, demBx_pick, hfz, dem_ptr, loadA_ptr, Bool.false_eq_true, if_false]; (conv => arg 1; ext i; whnf))
            refine Evx.idx (m := 0) rfl rfl ?_
            (conv => arg 1; ext i; whnf)
            repeat (simp only [hb, hbx, hbt, hn, hn1, demBx_set, demBx_pick, hfz, dem_ptr, loadA_ptr, Bool.false_eq_true, if_false]; (conv => arg 1; ext i; whnf))
            refine Evx.call (partsFn_ev (againT t a x)) ?_
            (conv => arg 1; ext i; whnf)
            repeat (simp only [hb, hbx, hbt, hn, hn1, demBx_set, demBx_pick, hfz, dem_ptr, loadA_ptr, Bool.false_eq_true, if_false]; (conv => arg 1; ext i; whnf))
            refine Bd.range (s := s) (W := id) (acc := acc) (bodyL_ev (m := m) ?_ ?_ hY) (ih (againT t a x) (by omega)) (fun _ => rfl) (fun _ => rfl) hB ?_ ?_ (by omega) hs (by omega) hr ?_
            · kernel_rfl
            · simp [hn1, dems, dem, Abs.look]
            · dsimp only
              repeat (first | exact Off.refl | apply Off.set | apply Off.pick)
            · dsimp only
              repeat (first | exact hB.pl | refine Pln.set (fun _ => rfl) ?_ | refine Pln.pick ?_)
            intro B' B2 hB2 ha hb2 ho2 hp2 hf2
            rw [List.map_id] at ha hb2
            (conv => arg 1; ext i; whnf)
            simp only [List.getElem?_concat_length, List.take_left]
            (conv => arg 1; ext i; whnf)
            repeat (simp only [hb, hbx, hbt, hn, hn1, demBx_set, demBx_pick, hfz, dem_ptr, loadA_ptr, Bool.false_eq_true, if_false]; (conv => arg 1; ext i; whnf))
            refine Evx.int (n' := 1) (by decide) ?_
            have hbx : ∀ u j, demBx (.box (n + 1) u j) B' = B' := fun u j => hi_of hb2 ho2 hp2 _ (Nat.le_refl _)
            have hbt : ∀ u j, demBx (.tmp (n + 1) u j) B' = B' := fun u j => hi_of hb2 ho2 hp2 _ (Nat.le_refl _)
            have hf2' : B' (n + 1) 2 = some ⟨[.yld β.l], false⟩ := by rw [hf2]; simp [hn1, dems, dem, Abs.look]
            clear hf2
            (conv => arg 1; ext i; whnf)
            repeat (simp only [hb, hbx, hbt, hn, hn1, demBx_set, demBx_pick, hfz, dem_ptr, loadA_ptr, Bool.false_eq_true, if_false]; (conv => arg 1; ext i; whnf))
            refine Evx.step (c := 1) (hd16 (n + 1) β.l _ 1 B' lp) (fun _ => head16 rfl rfl (.inr rfl) rfl rfl rfl hf2') (fun _ => rfl) ?_
            (conv => arg 1; ext i; whnf)
            repeat (simp only [hb, hbx, hbt, hn, hn1, demBx_set, demBx_pick, hfz, dem_ptr, loadA_ptr, Bool.false_eq_true, if_false]; (conv => arg 1; ext i; whnf))
            refine Evx.bool (fun g2 => ?_) (fun g2 => absurd (hold_false.1 g2) (by decide))
            (conv => arg 1; ext i; whnf)
            repeat (simp only [hb, hbx, hbt, hn, hn1, demBx_set, demBx_pick, hfz, dem_ptr, loadA_ptr, Bool.false_eq_true, if_false]; (conv => arg 1; ext i; whnf))
            refine Evx.idx (m := 1) rfl rfl ?_
            (conv => arg 1; ext i; whnf)
            repeat (simp only [hb, hbx, hbt, hn, hn1, demBx_set, demBx_pick, hfz, dem_ptr, loadA_ptr, Bool.false_eq_true, if_false]; (conv => arg 1; ext i; whnf))
            refine Evx.call (partsFn_ev (againT t a y)) ?_
            (conv => arg 1; ext i; whnf)
            repeat (simp only [hb, hbx, hbt, hn, hn1, demBx_set, demBx_pick, hfz, dem_ptr, loadA_ptr, Bool.false_eq_true, if_false]; (conv => arg 1; ext i; whnf))
            refine Bd.range (s := s) (W := id) (B := B2) (acc := acc ++ splitF N (againT t a x)) (bodyL_ev (m := m) ?_ ?_ hY) (ih (againT t a y) (by omega)) (fun _ => rfl) (fun _ => rfl) hb2 ?_ ?_ (by omega) hs (by rw [List.length_append]; omega) hr ?_
            · kernel_rfl
            · simp [hn1, dems, dem, Abs.look]
            · dsimp only
              repeat (first | exact ho2 | apply Off.set | apply Off.pick)
            · dsimp only
              repeat (first | exact hp2 | refine Pln.set (fun _ => rfl) ?_ | refine Pln.pick ?_)
            intro B3 B4 hB4 ha4 hb4 ho4 hp4 hf4
            rw [List.map_id] at ha4 hb4
            (conv => arg 1; ext i; whnf)
            simp only [List.getElem?_concat_length, List.take_left]
            have hbx : ∀ u j, demBx (.box (n + 1) u j) B3 = B3 := fun u j => hi_of hb4 ho4 hp4 _ (Nat.le_refl _)
            have hbt : ∀ u j, demBx (.tmp (n + 1) u j) B3 = B3 := fun u j => hi_of hb4 ho4 hp4 _ (Nat.le_refl _)
            have hf4' : B3 (n + 1) 2 = some ⟨[.yld β.l], false⟩ := by rw [hf4]; simp [hn1, dems, dem, Abs.look]
            clear hf4
            (conv => arg 1; ext i; whnf)
            repeat (simp only [hb, hbx, hbt, hn, hn1, demBx_set, demBx_pick, hfz, dem_ptr, loadA_ptr, Bool.false_eq_true, if_false]; (conv => arg 1; ext i; whnf))
            refine Evx.int (n' := 2) (by decide) ?_
            (conv => arg 1; ext i; whnf)
            repeat (simp only [hb, hbx, hbt, hn, hn1, demBx_set, demBx_pick, hfz, dem_ptr, loadA_ptr, Bool.false_eq_true, if_false]; (conv => arg 1; ext i; whnf))
            refine Evx.step (c := 2) (hd16 (n + 1) β.l _ 2 B3 lp) (fun _ => head16 rfl rfl (.inr rfl) rfl rfl rfl hf4') (fun _ => rfl) ?_
            (conv => arg 1; ext i; whnf)
            repeat (simp only [hb, hbx, hbt, hn, hn1, demBx_set, demBx_pick, hfz, dem_ptr, loadA_ptr, Bool.false_eq_true, if_false]; (conv => arg 1; ext i; whnf))
            refine Evx.bool (fun g3 => absurd (hold_true.1 g3) (by decide)) (fun g3 => ?_)
            (conv => arg 1; ext i; whnf)
            repeat (simp only [hb, hbx, hbt, hn, hn1, demBx_set, demBx_pick, hfz, dem_ptr, loadA_ptr, Bool.false_eq_true, if_false]; (conv => arg 1; ext i; whnf))
            rw [List.append_assoc] at ha4
            refine Evx.congrK (fun _ => G_eq ?_ rfl rfl) (hK ⟨B4, n, lp⟩ (ha.trans ha4))
            rw [hB4]
            exact pop_pick
          · have h7 := hold_false.1 h7
            simp only [trees_len, beq_eq_false_iff_ne, ne_eq] at h7
            have h2 : twoT t = none := twoT_none (by intro s' p' e; rw [hf] at e; cases e; exact ⟨hnb, by (intro hh; have := hh.2.2.2; omega)⟩)
            rw [splitF_one h2 hw] at hK hm
            (conv => arg 1; ext i; whnf)
            repeat (simp only [hb, hbx, hbt, hn, hn1, demBx_set, demBx_pick, hfz, dem_ptr, loadA_ptr, Bool.false_eq_true, if_false]; (conv => arg 1; ext i; whnf))
            refine Evx.call (copied_ev t ht) ?_
            (conv => arg 1; ext i; whnf)
            repeat (simp only [hb, hbx, hbt, hn, hn1, demBx_set, demBx_pick, hfz, dem_ptr, loadA_ptr, Bool.false_eq_true, if_false]; (conv => arg 1; ext i; whnf))
            refine hY.use (x := t) (fun _ => rfl) (fun _ => rfl) hts (by simp only [List.length_singleton] at hm; omega) hB (by repeat (first | exact Off.refl | apply Off.set)) (by repeat (first | exact hB.pl | refine Pln.set (fun _ => rfl) ?_)) hr ?_
            intro B' ha hx
            (conv => arg 1; ext i; whnf)
            exact Evx.congrK (fun _ => rfl) (hK _ hx)
        · have e6 := seq_ne.1 h6
          have h2 : twoT t = none := twoT_none (by intro s' p' e; rw [hf] at e; cases e; exact ⟨hnb, by (intro hh; exact e6 hh.2.2.1)⟩)
          rw [splitF_one h2 hw] at hK hm
          (conv => arg 1; ext i; whnf)
          repeat (simp only [hb, hbx, hbt, hn, hn1, demBx_set, demBx_pick, hfz, dem_ptr, loadA_ptr, Bool.false_eq_true, if_false]; (conv => arg 1; ext i; whnf))
          refine Evx.call (copied_ev t ht) ?_
          (conv => arg 1; ext i; whnf)
          repeat (simp only [hb, hbx, hbt, hn, hn1, demBx_set, demBx_pick, hfz, dem_ptr, loadA_ptr, Bool.false_eq_true, if_false]; (conv => arg 1; ext i; whnf))
          refine hY.use (x := t) (fun _ => rfl) (fun _ => rfl) hts (by simp only [List.length_singleton] at hm; omega) hB (by repeat (first | exact Off.refl | apply Off.set)) (by repeat (first | exact hB.pl | refine Pln.set (fun _ => rfl) ?_)) hr ?_
          intro B' ha hx
          (conv => arg 1; ext i; whnf)
          exact Evx.congrK (fun _ => rfl) (hK _ hx)
      · have e5 := seq_ne.1 h5
        have h2 : twoT t = none := twoT_none (by intro s' p' e; rw [hf] at e; cases e; exact ⟨hnb, by (intro hh; exact e5 hh.2.1)⟩)
        rw [splitF_one h2 hw] at hK hm
        (conv => arg 1; ext i; whnf)
        repeat (simp only [hb, hbx, hbt, hn, hn1, demBx_set, demBx_pick, hfz, dem_ptr, loadA_ptr, Bool.false_eq_true, if_false]; (conv => arg 1; ext i; whnf))
        refine Evx.call (copied_ev t ht) ?_
        (conv => arg 1; ext i; whnf)
        repeat (simp only [hb, hbx, hbt, hn, hn1, demBx_set, demBx_pick, hfz, dem_ptr, loadA_ptr, Bool.false_eq_true, if_false]; (conv => arg 1; ext i; whnf))
        refine hY.use (x := t) (fun _ => rfl) (fun _ => rfl) hts (by simp only [List.length_singleton] at hm; omega) hB (by repeat (first | exact Off.refl | apply Off.set)) (by repeat (first | exact hB.pl | refine Pln.set (fun _ => rfl) ?_)) hr ?_
        intro B' ha hx
        (conv => arg 1; ext i; whnf)
        exact Evx.congrK (fun _ => rfl) (hK _ hx)
    · have e8 : plainF t.fn ≠ true := by
        have := seq_ne.1 h1
        have := seq_ne.1 h8
        simp_all [plainF, sAssert, sMust]
      have h2 : twoT t = none := twoT_none (by intro s' p' e; rw [hf] at e; cases e; exact ⟨hnb, by (intro hh; exact e8 hh.1)⟩)
      rw [splitF_one h2 hw] at hK hm
      (conv => arg 1; ext i; whnf)
      repeat (simp only [hb, hbx, hbt, hn, hn1, demBx_set, demBx_pick, hfz, dem_ptr, loadA_ptr, Bool.false_eq_true, if_false]; (conv => arg 1; ext i; whnf))
      refine Evx.call (copied_ev t ht) ?_
      (conv => arg 1; ext i; whnf)
      repeat (simp only [hb, hbx, hbt, hn, hn1, demBx_set, demBx_pick, hfz, dem_ptr, loadA_ptr, Bool.false_eq_true, if_false]; (conv => arg 1; ext i; whnf))
      refine hY.use (x := t) (fun _ => rfl) (fun _ => rfl) hts (by simp only [List.length_singleton] at hm; omega) hB (by repeat (first | exact Off.refl | apply Off.set)) (by repeat (first | exact hB.pl | refine Pln.set (fun _ => rfl) ?_)) hr ?_
      intro B' ha hx
      (conv => arg 1; ext i; whnf)
      exact Evx.congrK (fun _ => rfl) (hK _ hx)
theorem parts_ev : ∀ (N : Nat) (t : Tree), t.size ≤ N → PartsS N t
  | 0, t, h => by have := size_pos t; omega
  | N + 1, t, h => by
    cases hf : frameT t with
    | none => exact parts_none (parts_ev N) t h hf
    | some q =>
      obtain ⟨a, b⟩ := q
      by_cases hp : t.fn = sAssert
      · exact parts_plain (parts_ev N) t h hf hp
      · exact parts_other (parts_ev N) t h hf hp

theorem Base.rec0 {β : Bs} {C : Nat → Nat → Option Box} {q : Nat} {lq : List LoopRec} {acc : List Tree} {rec : LoopRec} (h : Base β ⟨C, q, lq⟩ acc) (h0 : β.l = 0) (h1 : β.LP = [rec]) : lq[0]? = some rec := by
  have e : lq.take 1 = [rec] := by have := h.lp; rwa [h0, h1] at this
  have : (lq.take 1)[0]? = some rec := by rw [e]; rfl
  rwa [List.getElem?_take, if_pos (by omega)] at this


noncomputable def rngM : Array Nat × Code × Code := match Tryd.f18.body with
  | some c => ((rngs c)[0]?).getD (#[], .skip, .skip)
  | none => (#[], .skip, .skip)
noncomputable def recM (τ : Nat → Option AV) : LoopRec := { fid := 18, dp := 1, nt := Tryd.f18.ntmps, hint := hH 18, tm := τ, params := rngM.1.toList, assign := rngM.2.1, body := rngM.2.2, pend := none }

def bM (T : Tree) (n : Nat) : List ((Nat × Nat) × Box) := [((1, 1), treeBox T), ((1, 3), ⟨[.d (.int .i64 n)], false⟩)]
theorem bM_plain (T : Tree) (n : Nat) (i : Abs.Id) (d t : Nat) : demBx i (tabB (bM T n)) d t = tabB (bM T n) d t := by
  unfold demBx bM
  simp only [tabB]
  by_cases h1 : (Nat.beq d 1 && Nat.beq t 1) = true
  · rw [h1]; rfl
  · rw [Bool.eq_false_iff.2 h1]
    by_cases h2 : (Nat.beq d 1 && Nat.beq t 3) = true
    · rw [h2]; rfl
    · rw [Bool.eq_false_iff.2 h2]
noncomputable def bsM (T : Tree) (τ : Nat → Option AV) : Bs where
  b0 := 1
  l := 0
  LP := [recM τ]
  BX := fun acc => tabB (bM T acc.length)
  hi := fun acc i _ d t _ => bM_plain T acc.length i d t

theorem ydM (T : Tree) {τ : Nat → Option AV} (hτ3 : τ 3 = some (.ptr 1 3 0)) (m s : Nat) (hm : m ≤ 2 ^ 40) : Yd (bsM T τ) m s := by
  rintro x acc c K r ⟨C, q, lq⟩ hx hl hB hr hK
  have hrec := hB.rec0 rfl rfl
  rw [upd_of hτ3] at hrec
  have hc3 : C 1 3 = some ⟨[.d (.int .i64 acc.length)], false⟩ := hB.lo 1 3 (Nat.le_refl _)
  have hn := Nat.beq_refl q
  have hn1 := Nat.beq_refl (q + 1)
  have hq : 1 ≤ q := hB.dp
  have hne := beq_no (show 1 ≠ q + 1 by omega)
  have hCd : ∀ i, demBx i C = C := fun i => by
    funext d t
    by_cases hd : d ≤ 1
    · have e := hB.lo d t hd
      have e : C d t = tabB (bM T acc.length) d t := e
      rw [demBx_at e, e]; exact bM_plain T _ i d t
    · exact hB.pl i d t (by show 1 < d; omega)
  apply Evx.enter
  show Evx (fun i => runQ (pr i) _ Out (.yld 0) _ _ _) _
  (conv => arg 1; ext i; whnf)
  repeat (simp only [hrec, hc3, hCd, hne, setPend_bx, hn, hn1, dem_ptr, loadA_ptr, Bool.false_eq_true, if_false]; (conv => arg 1; ext i; whnf))
  refine Evx.int (wrap_succ (by omega)) ?_
  (conv => arg 1; ext i; whnf)
  repeat (simp only [hrec, hc3, hCd, hne, setPend_bx, hn, hn1, dem_ptr, loadA_ptr, Bool.false_eq_true, if_false]; (conv => arg 1; ext i; whnf))
  have htop : ∀ t, C (q + 1) t = none := fun t => hB.top _ _ (Nat.lt_succ_self _)
  refine Evx.congrK (fun _ => G_eq rfl rfl (setPend_back hrec rfl)) (hK ⟨fun d t => if Nat.beq d (q + 1) then none else if Nat.beq d 1 && Nat.beq t 3 then some ⟨[.d (.int .i64 ((acc.length + 1 : Nat) : Int))], false⟩ else C d t, q, lq⟩ ⟨rfl, rfl, fun d t hd => ?_, fun d t hd => ?_⟩)
  · have hd : 1 < d := hd
    dsimp only
    rw [if_neg (show ¬ (Nat.beq d 1 && Nat.beq t 3) = true by rw [beq_no (show d ≠ 1 by omega)]; simp)]
    by_cases h : d = q + 1
    · subst h; rw [if_pos (Nat.beq_refl _), htop]
    · rw [if_neg (fun e => h (Nat.eq_of_beq_eq_true e))]
  · have hd : d ≤ 1 := hd
    dsimp only
    rw [if_neg (show ¬ Nat.beq d (q + 1) = true by rw [beq_no (show d ≠ q + 1 by omega)]; simp)]
    show _ = tabB (bM T (acc ++ [x]).length) d t
    have e : C d t = tabB (bM T acc.length) d t := hB.lo d t hd
    rw [e, List.length_append, List.length_singleton]
    unfold bM
    simp only [tabB]
    by_cases h1 : (Nat.beq d 1 && Nat.beq t 1) = true
    · rw [h1]
      simp only [Bool.and_eq_true] at h1
      rw [if_neg (show ¬ (Nat.beq d 1 && Nat.beq t 3) = true by rw [Nat.eq_of_beq_eq_true h1.2]; simp)]
    · rw [Bool.eq_false_iff.2 h1]
      by_cases h2 : (Nat.beq d 1 && Nat.beq t 3) = true
      · rw [if_pos h2, h2]
      · rw [if_neg h2, Bool.eq_false_iff.2 h2]

theorem demAll_ptr (d u o : Nat) : demAll (.ptr d u o) = .ptr d u o := rfl
theorem G0_dp : G0.dp = 0 := rfl

theorem merged_ev (t : Tree) (ht : t.bulk < 2 ^ 28) (hs : t.size ≤ 2 ^ 15) : Ev pr 18 [t.d] (.ret [.d (.int .i64 (splitT t).length)]) := by
  obtain ⟨l1, _, _⟩ := split_len t.size t (Nat.le_refl _)
  have l2 := sq_le hs
  apply Ev.enter; intro c; (conv => arg 1; ext i; whnf)
  refine Evx.call (partsFn_ev t) ?_
  (conv => arg 1; ext i; whnf)
  refine Evx.congrC (args' := [.yld 0, .d (.at [.str t.fn, .sl 1 (ints t.vs), .sl 3 (trees t.ks)])]) (g' := ⟨tabB (bM t 0), 1, [recM _]⟩) (fun _ => rfl) (fun _ => G_eq ?_ rfl rfl) ?_
  · refine tab_eq (by repeat (first | exact BSup.tab _ | exact BSup.g0 | apply BSup.dem | apply BSup.set | apply BSup.pop | apply BSup.hid | apply BSup.popG | apply BSup.un | apply BSup.lz)) (by kernel_rfl)
  refine parts_ev t.size t (Nat.le_refl _) (bsM t _) (2 ^ 30) t.bulk (ydM t (by kernel_rfl) _ _ (by decide)) (Nat.le_refl _) ht [] (by show 0 + _ ≤ _; omega) _ _ _ _ (Out.same_self (by simp [AV.firm, D.firm])) ⟨Nat.le_refl _, rfl, Nat.lt_succ_self 0, fun d t' hd => rfl, fun d t' hd => ?_, fun i d t' hd => bM_plain t 0 i d t'⟩ ?_
  · have hd : 1 < d := hd
    show tabB (bM t 0) d t' = none
    unfold bM
    simp only [tabB, beq_no (show d ≠ 1 by omega), Bool.false_and]
  rintro ⟨B', d', lp'⟩ ha
  obtain rfl : d' = 1 := ha.dp
  obtain rfl : lp' = _ := ha.lp
  have h13 : B' 1 3 = some ⟨[.d (.int .i64 (splitT t).length)], false⟩ := ha.lo 1 3 (Nat.le_refl _)
  (conv => arg 1; ext i; whnf)
  simp only [dem_ptr, demAll_ptr, G0_dp, Nat.zero_add, loadA_ptr, h13]
  (conv => arg 1; ext i; whnf)
  exact Evx.pure rfl

noncomputable def rngA : Array Nat × Code × Code := match Tryd.f49.body with
  | some c => ((rngs c)[0]?).getD (#[], .skip, .skip)
  | none => (#[], .skip, .skip)
noncomputable def recA (τ : Nat → Option AV) : LoopRec := { fid := 49, dp := 1, nt := Tryd.f49.ntmps, hint := hH 49, tm := τ, params := rngA.1.toList, assign := rngA.2.1, body := rngA.2.2, pend := none }

def avA : List Tree → AV
  | [] => .d .nils
  | t :: ts => .own (.box 1 2 0) 3 (trees (t :: ts))
def bA (acc : List Tree) : List ((Nat × Nat) × Box) := [((1, 2), ⟨[avA acc], false⟩)]
theorem set_end (l : List (List D)) (a b : List D) : (l ++ [a]).set ((l.length : Int)).toNat b = l ++ [b] := by simp
theorem avA_app (acc : List Tree) (x : Tree) : avA (acc ++ [x]) = .own (.box 1 2 0) 3 (trees (acc ++ [x])) := by
  cases acc <;> rfl
theorem bA_hi (acc : List Tree) (i : Abs.Id) (hi : i ≠ .box 1 2 0) (d t : Nat) : demBx i (tabB (bA acc)) d t = tabB (bA acc) d t := by
  unfold demBx bA
  simp only [tabB]
  by_cases h1 : (Nat.beq d 1 && Nat.beq t 2) = true
  · rw [h1]
    cases acc with
    | nil => rfl
    | cons x xs => simp only [avA, dems, dem, if_neg hi]
  · rw [Bool.eq_false_iff.2 h1]
noncomputable def bsA (τ : Nat → Option AV) : Bs where
  b0 := 1
  l := 0
  LP := [recA τ]
  BX := fun acc => tabB (bA acc)
  hi := fun acc i hi d t _ => bA_hi acc i (fun e => by subst e; simp only [hiId] at hi; omega) d t

theorem setTm_upd (i : Abs.Id) (n sz : Nat) (c : List D) (tm : Nat → Option AV) (d : Nat) (a : AV) : setTm i n sz c (updQ tm d (some a)) = updQ (setTm i n sz c tm) d (some (setRaw i n sz c a)) := by
  funext t
  unfold setTm updQ
  cases Nat.beq t d <;> rfl
theorem demTm_upd (i : Abs.Id) (tm : Nat → Option AV) (d : Nat) (a : AV) : demTm i (updQ tm d (some a)) = updQ (demTm i tm) d (some (dem i a)) := by
  funext t
  unfold demTm updQ
  cases Nat.beq t d <;> rfl
theorem renTm_upd (i j : Abs.Id) (tm : Nat → Option AV) (d : Nat) (a : AV) : renTm i j (updQ tm d (some a)) = updQ (renTm i j tm) d (some (renA i j a)) := by
  funext t
  unfold renTm updQ
  cases Nat.beq t d <;> rfl
theorem rowAV_raw (k : Nat) (i : Abs.Id) (sz : Nat) (es : List (List D)) : rowAV (rawK true k) i sz es = .raw none k i sz es := rfl
theorem rowAV_own (i : Abs.Id) (sz : Nat) (es : List (List D)) : rowAV none i sz es = .own i sz es := rfl
theorem elem_raw (n k : Nat) (e : List D) (i : Abs.Id) (sz : Nat) (es : List (List D)) : AV.elem n e (.raw none k i sz es) = .raw (some n) k i sz es := rfl
theorem setRaw_self (i : Abs.Id) (n sz : Nat) (c : List D) (o : Option Nat) (k z : Nat) (es : List (List D)) : setRaw i n sz c (.raw o k i z es) = (match Nat.beq z sz with
      | true => .raw o k i z (es.set n c)
      | false => .old o z es.length) := by simp only [setRaw, if_true]; cases Nat.beq z sz <;> rfl
theorem setRaw_d (i : Abs.Id) (n sz : Nat) (c : List D) (x : D) : setRaw i n sz c (.d x) = .d x := rfl
theorem setRaw_ptr (i : Abs.Id) (n sz : Nat) (c : List D) (d u o : Nat) : setRaw i n sz c (.ptr d u o) = .ptr d u o := rfl
theorem setRaw_own (i j : Abs.Id) (n sz : Nat) (c : List D) (z : Nat) (es : List (List D)) : setRaw i n sz c (.own j z es) = .own j z es := rfl
theorem renA_self (i j : Abs.Id) (o : Option Nat) (k z : Nat) (es : List (List D)) : renA i j (.raw o k i z es) = .raw o k j z es := by simp only [renA, if_true]
theorem ev_tmp (tm : Nat → Option AV) (t : Nat) : ev tm (.tmp t) = tm t := rfl
/-! What bears no row of a name is left alone. -/
mutual
  theorem setRaw_of {i : Abs.Id} {n sz : Nat} {c : List D} : ∀ {a : AV}, dem i a = a → setRaw i n sz c a = a
    | .d _, _ => rfl
    | .own _ _ _, _ => rfl
    | .ptr _ _ _, _ => rfl
    | .fn _ _, _ => rfl
    | .yld _, _ => rfl
    | .old _ _ _, _ => rfl
    | .raw o k j z es, h => by
      simp only [dem] at h
      split at h
      · cases h
      · rename_i hne; simp only [setRaw, if_neg hne]
    | .tup xs, h => by
      simp only [dem, AV.tup.injEq] at h
      simp only [setRaw, setRaws_of h]
  theorem setRaws_of {i : Abs.Id} {n sz : Nat} {c : List D} : ∀ {bs : List AV}, dems i bs = bs → setRaws i n sz c bs = bs
    | [], _ => rfl
    | a :: bs, h => by
      simp only [dems, List.cons.injEq] at h
      simp only [setRaws, setRaw_of h.1, setRaws_of h.2]
end
mutual
  theorem renA_of {i j : Abs.Id} : ∀ {a : AV}, dem i a = a → renA i j a = a
    | .d _, _ => rfl
    | .own k z es, h => by
      simp only [dem] at h
      split at h
      · cases h
      · rename_i hne; simp only [renA, if_neg hne]
    | .ptr _ _ _, _ => rfl
    | .fn _ _, _ => rfl
    | .yld _, _ => rfl
    | .old _ _ _, _ => rfl
    | .raw o k l z es, h => by
      simp only [dem] at h
      split at h
      · cases h
      · rename_i hne; simp only [renA, if_neg hne]
    | .tup xs, h => by
      simp only [dem, AV.tup.injEq] at h
      simp only [renA, renAs_of h]
  theorem renAs_of {i j : Abs.Id} : ∀ {bs : List AV}, dems i bs = bs → renAs i j bs = bs
    | [], _ => rfl
    | a :: bs, h => by
      simp only [dems, List.cons.injEq] at h
      simp only [renAs, renA_of h.1, renAs_of h.2]
end
mutual
  theorem dem_of {i j : Abs.Id} : ∀ {a : AV}, dem i a = a → dem i (dem j a) = dem j a
    | .d _, _ => rfl
    | .own k z es, h => by
      simp only [dem] at h ⊢
      split
      · rfl
      · simp only [dem]; exact h
    | .ptr _ _ _, _ => rfl
    | .fn _ _, _ => rfl
    | .yld _, _ => rfl
    | .old _ _ _, _ => rfl
    | .raw o k l z es, h => by
      simp only [dem] at h ⊢
      split
      · rfl
      · simp only [dem]; exact h
    | .tup xs, h => by
      simp only [dem, AV.tup.injEq] at h ⊢
      exact dems_of h
  theorem dems_of {i j : Abs.Id} : ∀ {bs : List AV}, dems i bs = bs → dems i (dems j bs) = dems j bs
    | [], _ => rfl
    | a :: bs, h => by
      simp only [dems, List.cons.injEq] at h ⊢
      exact ⟨dem_of h.1, dems_of h.2⟩
end
mutual
  theorem dem_idem (i : Abs.Id) : ∀ (a : AV), dem i (dem i a) = dem i a
    | .d _ => rfl
    | .own k z es => by
      simp only [dem]
      split
      · rfl
      · rename_i hne; simp only [dem, if_neg hne]
    | .ptr _ _ _ => rfl
    | .fn _ _ => rfl
    | .yld _ => rfl
    | .old _ _ _ => rfl
    | .raw o k l z es => by
      simp only [dem]
      split
      · rfl
      · rename_i hne; simp only [dem, if_neg hne]
    | .tup xs => by simp only [dem, dems_idem i xs]
  theorem dems_idem (i : Abs.Id) : ∀ (bs : List AV), dems i (dems i bs) = dems i bs
    | [] => rfl
    | a :: bs => by simp only [dems, dem_idem i a, dems_idem i bs]
end
theorem box_of {i : Abs.Id} {f : Nat → Nat → Option Box} (h : demBx i f = f) {d t : Nat} {b : Box} (hb : f d t = some b) : dems i b.cells = b.cells := by
  have e := congrFun (congrFun h d) t
  unfold demBx at e
  rw [hb] at e
  dsimp only at e
  have := Option.some.inj e
  exact congrArg Box.cells this
theorem setBx_of {i : Abs.Id} {n sz : Nat} {c : List D} {f : Nat → Nat → Option Box} (h : demBx i f = f) : setBx i n sz c f = f := by
  funext d t
  unfold setBx
  cases hb : f d t with
  | none => rfl
  | some b => dsimp only; rw [setRaws_of (box_of h hb)]
theorem renBx_of {i j : Abs.Id} {f : Nat → Nat → Option Box} (h : demBx i f = f) : renBx i j f = f := by
  funext d t
  unfold renBx
  cases hb : f d t with
  | none => rfl
  | some b => dsimp only; rw [renAs_of (box_of h hb)]
theorem demBx_of {i j : Abs.Id} {f : Nat → Nat → Option Box} (h : demBx i f = f) : demBx i (demBx j f) = demBx j f := by
  funext d t
  unfold demBx
  cases hb : f d t with
  | none => rfl
  | some b => dsimp only; rw [dems_of (box_of h hb)]
theorem demBx_idem (i : Abs.Id) (f : Nat → Nat → Option Box) : demBx i (demBx i f) = demBx i f := by
  funext d t
  unfold demBx
  cases hb : f d t with
  | none => rfl
  | some b => dsimp only; rw [dems_idem]
theorem demBx_fn (i : Abs.Id) (N u : Nat) (cs : List AV) (z : Bool) (f : Nat → Nat → Option Box) :
    demBx i (fun d t => if Nat.beq d N && Nat.beq t u then some ⟨cs, z⟩ else f d t) = fun d t => if Nat.beq d N && Nat.beq t u then some ⟨dems i cs, z⟩ else demBx i f d t := by
  funext d t
  exact demBx_set i N u cs z f d t
theorem setBx_set (i : Abs.Id) (n sz : Nat) (c : List D) (N u : Nat) (cs : List AV) (z : Bool) (f : Nat → Nat → Option Box) :
    setBx i n sz c (fun d t => if Nat.beq d N && Nat.beq t u then some ⟨cs, z⟩ else f d t) = fun d t => if Nat.beq d N && Nat.beq t u then some ⟨setRaws i n sz c cs, z⟩ else setBx i n sz c f d t := by
  funext d t
  unfold setBx
  dsimp only
  by_cases h : (Nat.beq d N && Nat.beq t u) = true
  · rw [if_pos h, if_pos h]
  · rw [if_neg h, if_neg h]
theorem renBx_set (i j : Abs.Id) (N u : Nat) (cs : List AV) (z : Bool) (f : Nat → Nat → Option Box) :
    renBx i j (fun d t => if Nat.beq d N && Nat.beq t u then some ⟨cs, z⟩ else f d t) = fun d t => if Nat.beq d N && Nat.beq t u then some ⟨renAs i j cs, z⟩ else renBx i j f d t := by
  funext d t
  unfold renBx
  dsimp only
  by_cases h : (Nat.beq d N && Nat.beq t u) = true
  · rw [if_pos h, if_pos h]
  · rw [if_neg h, if_neg h]
theorem ydA {τ : Nat → Option AV} (hτ2 : τ 2 = some (.ptr 1 2 0)) (m s : Nat) (hm : m ≤ 2 ^ 32) : Yd (bsA τ) m s := by
  rintro x acc c K r ⟨C, q, lq⟩ hx hl hB hr hK
  have hrec := hB.rec0 rfl rfl
  rw [upd_of hτ2] at hrec
  have hc2 : C 1 2 = some ⟨[avA acc], false⟩ := hB.lo 1 2 (Nat.le_refl _)
  have hb : ∀ t, C (q + 1) t = none := fun t => hB.top _ _ (Nat.lt_succ_self _)
  have hbx : ∀ u j, demBx (.box (q + 1) u j) C = C := fun u j => funext fun d => funext fun t => hB.hi _ (Nat.le_refl _) d t
  have hbt : ∀ u j, demBx (.tmp (q + 1) u j) C = C := fun u j => funext fun d => funext fun t => hB.hi _ (Nat.le_refl _) d t
  have hn := Nat.beq_refl q
  have hn1 := Nat.beq_refl (q + 1)
  have hq : 1 ≤ q := hB.dp
  have hne := beq_no (show 1 ≠ q + 1 by omega)
  have hid := demBx_idem (.box 1 2 0) C
  have hs0 : ∀ n sz c, setBx (.tmp (q + 1) 12 0) n sz c C = C := fun n sz c => setBx_of (hbt 12 0)
  have hs1 : ∀ n sz c, setBx (.tmp (q + 1) 12 0) n sz c (demBx (.box 1 2 0) C) = demBx (.box 1 2 0) C := fun n sz c => setBx_of (demBx_of (hbt 12 0))
  have hs2 : renBx (.tmp (q + 1) 12 0) (.box 1 2 0) (demBx (.box 1 2 0) C) = demBx (.box 1 2 0) C := renBx_of (demBx_of (hbt 12 0))
  have hrest : ∀ d t, ¬ (Nat.beq d 1 && Nat.beq t 2) = true → demBx (.box 1 2 0) C d t = C d t := fun d t h2 => by
    by_cases hd : d ≤ 1
    · have e : C d t = tabB (bA acc) d t := hB.lo d t hd
      have e2 : C d t = none := by
        rw [e]; unfold bA; simp only [tabB]; rw [Bool.eq_false_iff.2 h2]
      unfold demBx; rw [e2]
    · exact hB.pl _ d t (by show 1 < d; omega)
  have hup : ∀ d t, 1 < d → (fun d t => if Nat.beq d (q + 1) then none else if Nat.beq d 1 && Nat.beq t 2 then some (⟨[avA (acc ++ [x])], false⟩ : Box) else C d t) d t = C d t := fun d t hd => by
    dsimp only
    rw [if_neg (show ¬ (Nat.beq d 1 && Nat.beq t 2) = true by rw [beq_no (show d ≠ 1 by omega)]; simp)]
    by_cases h : d = q + 1
    · subst h; rw [if_pos (Nat.beq_refl _), hb]
    · rw [if_neg (fun e => h (Nat.eq_of_beq_eq_true e))]
  have hlo : ∀ d t, d ≤ 1 → (fun d t => if Nat.beq d (q + 1) then none else if Nat.beq d 1 && Nat.beq t 2 then some (⟨[avA (acc ++ [x])], false⟩ : Box) else C d t) d t = tabB (bA (acc ++ [x])) d t := fun d t hd => by
    dsimp only
    rw [if_neg (show ¬ Nat.beq d (q + 1) = true by rw [beq_no (show d ≠ q + 1 by omega)]; simp)]
    have e : C d t = tabB (bA acc) d t := hB.lo d t hd
    rw [e]
    unfold bA
    simp only [tabB]
    by_cases h2 : (Nat.beq d 1 && Nat.beq t 2) = true
    · rw [if_pos h2, h2]
    · rw [if_neg h2, Bool.eq_false_iff.2 h2]
  have hs3 : ∀ n sz c, setBx (.box 1 2 0) n sz c (demBx (.box 1 2 0) C) = demBx (.box 1 2 0) C := fun n sz c => setBx_of hid
  apply Evx.enter
  show Evx (fun i => runQ (pr i) _ Out (.yld 0) _ _ _) _
  cases acc with
  | nil =>
    simp only [avA] at hc2
    have h12 : demBx (.box 1 2 0) C 1 2 = some ⟨[.d .nils], false⟩ := by unfold demBx; rw [hc2]; rfl
    (conv => arg 1; ext i; whnf)
    repeat (simp only [hrec, hc2, hne, hb, hbx, hbt, hn, hn1, setPend_bx, demBx_set, dem_ptr, loadA_ptr, Bool.false_eq_true, if_false]; (conv => arg 1; ext i; whnf))
    refine Evx.two hr ?_ ?_
    · (conv => arg 1; ext i; whnf)
      repeat (simp only [hrec, hc2, hne, hb, hbx, hbt, hn, hn1, setPend_bx, demBx_set, dem_ptr, loadA_ptr, Bool.false_eq_true, if_false]; (conv => arg 1; ext i; whnf))
      refine Evx.appd rfl (m := 1 * 65) (by decide) ?_
      (conv => arg 1; ext i; whnf)
      repeat (simp only [hrec, hc2, hne, hb, hbx, hbt, hn, hn1, setPend_bx, demBx_set, dem_ptr, loadA_ptr, Bool.false_eq_true, if_false]; (conv => arg 1; ext i; whnf))
      refine Evx.idx (m := 0) rfl rfl ?_
      (conv => arg 1; ext i; whnf)
      repeat (simp only [hrec, hc2, hne, hb, hbx, hbt, hn, hn1, setPend_bx, demBx_set, dem_ptr, loadA_ptr, Bool.false_eq_true, if_false]; (conv => arg 1; ext i; whnf))
      refine Evx.must (by rfl) ?_
      (conv => arg 1; ext i; whnf)
      repeat (simp only [h12, hid, hs3, demBx_fn, hs0, hs1, hs2, setBx_set, renBx_set, ev_tmp, setTm_upd, demTm_upd, renTm_upd, rowAV_raw, rowAV_own, elem_raw, setRaw_self, setRaw_d, setRaw_ptr, setRaw_own, renA_self, hrec, hc2, hne, hb, hbx, hbt, hn, hn1, setPend_bx, demBx_set, dem_ptr, loadA_ptr, Bool.false_eq_true, if_false]; (conv => arg 1; ext i; whnf))
      refine Evx.congrK (g' := ⟨fun d t => if Nat.beq d (q + 1) then none else if Nat.beq d 1 && Nat.beq t 2 then some ⟨[avA ([] ++ [x])], false⟩ else C d t, q, lq⟩) (fun _ => G_eq ?_ rfl (setPend_back hrec rfl)) (hK _ ⟨rfl, rfl, hup, hlo⟩)
      funext d t
      show (if Nat.beq d (q + 1) then none else (if Nat.beq d 1 && Nat.beq t 2 then some _ else _)) = _
      by_cases h1 : d = q + 1
      · rw [if_pos (by rw [h1]; exact Nat.beq_refl _), if_pos (by rw [h1]; exact Nat.beq_refl _)]
      · have h1' : ¬ Nat.beq d (q + 1) = true := by rw [beq_no h1]; simp
        rw [if_neg h1', if_neg h1']
        by_cases h2 : (Nat.beq d 1 && Nat.beq t 2) = true
        · rw [if_pos h2, if_pos h2]
          exact (by rw [avA_app, List.nil_append, trees_cons]; rfl)
        · rw [if_neg h2, if_neg h2]
          simp only [demSt, demBx_fn, hid, hs3, if_true, if_neg h2, beq_no h1, Bool.false_and, Bool.false_eq_true, if_false]
          exact hrest d t h2
    · (conv => arg 1; ext i; whnf)
      repeat (simp only [hrec, hc2, hne, hb, hbx, hbt, hn, hn1, setPend_bx, demBx_set, dem_ptr, loadA_ptr, Bool.false_eq_true, if_false]; (conv => arg 1; ext i; whnf))
      refine Evx.appd rfl (m := 1 * 65) (by decide) ?_
      (conv => arg 1; ext i; whnf)
      repeat (simp only [hrec, hc2, hne, hb, hbx, hbt, hn, hn1, setPend_bx, demBx_set, dem_ptr, loadA_ptr, Bool.false_eq_true, if_false]; (conv => arg 1; ext i; whnf))
      refine Evx.idx (m := 0) rfl rfl ?_
      (conv => arg 1; ext i; whnf)
      repeat (simp only [hrec, hc2, hne, hb, hbx, hbt, hn, hn1, setPend_bx, demBx_set, dem_ptr, loadA_ptr, Bool.false_eq_true, if_false]; (conv => arg 1; ext i; whnf))
      repeat (simp only [h12, hid, hs3, demBx_fn, hs0, hs1, hs2, setBx_set, renBx_set, ev_tmp, setTm_upd, demTm_upd, renTm_upd, rowAV_raw, rowAV_own, elem_raw, setRaw_self, setRaw_d, setRaw_ptr, setRaw_own, renA_self, hrec, hc2, hne, hb, hbx, hbt, hn, hn1, setPend_bx, demBx_set, dem_ptr, loadA_ptr, Bool.false_eq_true, if_false]; (conv => arg 1; ext i; whnf))
      refine Evx.must (by rfl) ?_
      (conv => arg 1; ext i; whnf)
      repeat (simp only [h12, hid, hs3, demBx_fn, hs0, hs1, hs2, setBx_set, renBx_set, ev_tmp, setTm_upd, demTm_upd, renTm_upd, rowAV_raw, rowAV_own, elem_raw, setRaw_self, setRaw_d, setRaw_ptr, setRaw_own, renA_self, hrec, hc2, hne, hb, hbx, hbt, hn, hn1, setPend_bx, demBx_set, dem_ptr, loadA_ptr, Bool.false_eq_true, if_false]; (conv => arg 1; ext i; whnf))
      refine Evx.congrK (g' := ⟨fun d t => if Nat.beq d (q + 1) then none else if Nat.beq d 1 && Nat.beq t 2 then some ⟨[avA ([] ++ [x])], false⟩ else C d t, q, lq⟩) (fun _ => G_eq ?_ rfl (setPend_back hrec rfl)) (hK _ ⟨rfl, rfl, hup, hlo⟩)
      funext d t
      show (if Nat.beq d (q + 1) then none else (if Nat.beq d 1 && Nat.beq t 2 then some _ else _)) = _
      by_cases h1 : d = q + 1
      · rw [if_pos (by rw [h1]; exact Nat.beq_refl _), if_pos (by rw [h1]; exact Nat.beq_refl _)]
      · have h1' : ¬ Nat.beq d (q + 1) = true := by rw [beq_no h1]; simp
        rw [if_neg h1', if_neg h1']
        by_cases h2 : (Nat.beq d 1 && Nat.beq t 2) = true
        · rw [if_pos h2, if_pos h2]
          exact (by rw [avA_app, List.nil_append, trees_cons]; rfl)
        · rw [if_neg h2, if_neg h2]
          simp only [demSt, demBx_fn, hid, hs3, if_true, if_neg h2, beq_no h1, Bool.false_and, Bool.false_eq_true, if_false]
          exact hrest d t h2
  | cons y ys =>
    simp only [avA] at hc2
    have h12 : demBx (.box 1 2 0) C 1 2 = some ⟨[.d (.sl 3 (trees (y :: ys)))], false⟩ := by unfold demBx; rw [hc2]; rfl
    have hlen : (trees (y :: ys)).length < 2 ^ 32 := by rw [trees_len]; omega
    have hs4 : ∀ n sz c, setBx (.tmp (q + 1) 12 0) n sz c (demBx (.box 1 2 0) C) = demBx (.box 1 2 0) C := hs1
    (conv => arg 1; ext i; whnf)
    repeat (simp only [hrec, hc2, hne, hb, hbx, hbt, hn, hn1, setPend_bx, demBx_set, dem_ptr, loadA_ptr, Bool.false_eq_true, if_false]; (conv => arg 1; ext i; whnf))
    refine Evx.two hr ?_ ?_
    · (conv => arg 1; ext i; whnf)
      repeat (simp only [hrec, hc2, hne, hb, hbx, hbt, hn, hn1, setPend_bx, demBx_set, dem_ptr, loadA_ptr, Bool.false_eq_true, if_false]; (conv => arg 1; ext i; whnf))
      refine Evx.appR rfl (m := ((trees (y :: ys)).length + 1) * 65) (by omega) (by rfl) ?_
      (conv => arg 1; ext i; whnf)
      repeat (simp only [h12, hid, hs3, demBx_fn, hs0, hs1, hs2, setBx_set, renBx_set, ev_tmp, setTm_upd, demTm_upd, renTm_upd, rowAV_raw, rowAV_own, elem_raw, setRaw_self, setRaw_d, setRaw_ptr, setRaw_own, renA_self, hrec, hc2, hne, hb, hbx, hbt, hn, hn1, setPend_bx, demBx_set, dem_ptr, loadA_ptr, Bool.false_eq_true, if_false]; (conv => arg 1; ext i; whnf))
      refine Evx.idx (m := (trees (y :: ys)).length) rfl (List.getElem?_concat_length ..) ?_
      (conv => arg 1; ext i; whnf)
      repeat (simp only [hrec, hc2, hne, hb, hbx, hbt, hn, hn1, setPend_bx, demBx_set, dem_ptr, loadA_ptr, Bool.false_eq_true, if_false]; (conv => arg 1; ext i; whnf))
      repeat (simp only [h12, hid, hs3, demBx_fn, hs0, hs1, hs2, setBx_set, renBx_set, ev_tmp, setTm_upd, demTm_upd, renTm_upd, rowAV_raw, rowAV_own, elem_raw, setRaw_self, setRaw_d, setRaw_ptr, setRaw_own, renA_self, hrec, hc2, hne, hb, hbx, hbt, hn, hn1, setPend_bx, demBx_set, dem_ptr, loadA_ptr, Bool.false_eq_true, if_false]; (conv => arg 1; ext i; whnf))
      refine Evx.must (by simp) ?_
      (conv => arg 1; ext i; whnf)
      repeat (simp only [h12, hid, hs3, demBx_fn, hs0, hs1, hs2, setBx_set, renBx_set, ev_tmp, setTm_upd, demTm_upd, renTm_upd, rowAV_raw, rowAV_own, elem_raw, setRaw_self, setRaw_d, setRaw_ptr, setRaw_own, renA_self, hrec, hc2, hne, hb, hbx, hbt, hn, hn1, setPend_bx, demBx_set, dem_ptr, loadA_ptr, Bool.false_eq_true, if_false]; (conv => arg 1; ext i; whnf))
      refine Evx.congrK (g' := ⟨fun d t => if Nat.beq d (q + 1) then none else if Nat.beq d 1 && Nat.beq t 2 then some ⟨[avA ((y :: ys) ++ [x])], false⟩ else C d t, q, lq⟩) (fun _ => G_eq ?_ rfl (setPend_back hrec rfl)) (hK _ ⟨rfl, rfl, hup, hlo⟩)
      funext d t
      show (if Nat.beq d (q + 1) then none else (if Nat.beq d 1 && Nat.beq t 2 then some _ else _)) = _
      by_cases h1 : d = q + 1
      · rw [if_pos (by rw [h1]; exact Nat.beq_refl _), if_pos (by rw [h1]; exact Nat.beq_refl _)]
      · have h1' : ¬ Nat.beq d (q + 1) = true := by rw [beq_no h1]; simp
        rw [if_neg h1', if_neg h1']
        by_cases h2 : (Nat.beq d 1 && Nat.beq t 2) = true
        · rw [if_pos h2, if_pos h2]
          exact (by rw [avA_app, trees_app, show trees [x] = [[.str x.fn, .sl 1 (ints x.vs), .sl 3 (trees x.ks)]] by rw [trees_cons]; rfl]; exact congrArg (fun e => some (⟨[.own (.box 1 2 0) 3 e], false⟩ : Box)) (set_end _ _ _))
        · rw [if_neg h2, if_neg h2]
          simp only [demSt, demBx_fn, hid, hs3, if_true, if_neg h2, beq_no h1, Bool.false_and, Bool.false_eq_true, if_false]
          exact hrest d t h2
    · (conv => arg 1; ext i; whnf)
      repeat (simp only [hrec, hc2, hne, hb, hbx, hbt, hn, hn1, setPend_bx, demBx_set, dem_ptr, loadA_ptr, Bool.false_eq_true, if_false]; (conv => arg 1; ext i; whnf))
      refine Evx.appR rfl (m := ((trees (y :: ys)).length + 1) * 65) (by omega) (by rfl) ?_
      (conv => arg 1; ext i; whnf)
      repeat (simp only [h12, hid, hs3, demBx_fn, hs0, hs1, hs2, setBx_set, renBx_set, ev_tmp, setTm_upd, demTm_upd, renTm_upd, rowAV_raw, rowAV_own, elem_raw, setRaw_self, setRaw_d, setRaw_ptr, setRaw_own, renA_self, hrec, hc2, hne, hb, hbx, hbt, hn, hn1, setPend_bx, demBx_set, dem_ptr, loadA_ptr, Bool.false_eq_true, if_false]; (conv => arg 1; ext i; whnf))
      refine Evx.idx (m := (trees (y :: ys)).length) rfl (List.getElem?_concat_length ..) ?_
      (conv => arg 1; ext i; whnf)
      repeat (simp only [hrec, hc2, hne, hb, hbx, hbt, hn, hn1, setPend_bx, demBx_set, dem_ptr, loadA_ptr, Bool.false_eq_true, if_false]; (conv => arg 1; ext i; whnf))
      repeat (simp only [h12, hid, hs3, demBx_fn, hs0, hs1, hs2, setBx_set, renBx_set, ev_tmp, setTm_upd, demTm_upd, renTm_upd, rowAV_raw, rowAV_own, elem_raw, setRaw_self, setRaw_d, setRaw_ptr, setRaw_own, renA_self, hrec, hc2, hne, hb, hbx, hbt, hn, hn1, setPend_bx, demBx_set, dem_ptr, loadA_ptr, Bool.false_eq_true, if_false]; (conv => arg 1; ext i; whnf))
      refine Evx.must (by simp) ?_
      (conv => arg 1; ext i; whnf)
      repeat (simp only [h12, hid, hs3, demBx_fn, hs0, hs1, hs2, setBx_set, renBx_set, ev_tmp, setTm_upd, demTm_upd, renTm_upd, rowAV_raw, rowAV_own, elem_raw, setRaw_self, setRaw_d, setRaw_ptr, setRaw_own, renA_self, hrec, hc2, hne, hb, hbx, hbt, hn, hn1, setPend_bx, demBx_set, dem_ptr, loadA_ptr, Bool.false_eq_true, if_false]; (conv => arg 1; ext i; whnf))
      refine Evx.congrK (g' := ⟨fun d t => if Nat.beq d (q + 1) then none else if Nat.beq d 1 && Nat.beq t 2 then some ⟨[avA ((y :: ys) ++ [x])], false⟩ else C d t, q, lq⟩) (fun _ => G_eq ?_ rfl (setPend_back hrec rfl)) (hK _ ⟨rfl, rfl, hup, hlo⟩)
      funext d t
      show (if Nat.beq d (q + 1) then none else (if Nat.beq d 1 && Nat.beq t 2 then some _ else _)) = _
      by_cases h1 : d = q + 1
      · rw [if_pos (by rw [h1]; exact Nat.beq_refl _), if_pos (by rw [h1]; exact Nat.beq_refl _)]
      · have h1' : ¬ Nat.beq d (q + 1) = true := by rw [beq_no h1]; simp
        rw [if_neg h1', if_neg h1']
        by_cases h2 : (Nat.beq d 1 && Nat.beq t 2) = true
        · rw [if_pos h2, if_pos h2]
          exact (by rw [avA_app, trees_app, show trees [x] = [[.str x.fn, .sl 1 (ints x.vs), .sl 3 (trees x.ks)]] by rw [trees_cons]; rfl]; exact congrArg (fun e => some (⟨[.own (.box 1 2 0) 3 e], false⟩ : Box)) (set_end _ _ _))
        · rw [if_neg h2, if_neg h2]
          simp only [demSt, demBx_fn, hid, hs3, if_true, if_neg h2, beq_no h1, Bool.false_and, Bool.false_eq_true, if_false]
          exact hrest d t h2

theorem own_of {acc : List Tree} (h : 1 ≤ acc.length) : avA acc = .own (.box 1 2 0) 3 (trees acc) := by
  cases acc with
  | nil => simp at h
  | cons x xs => rfl
theorem appendSeq_ev (t : Tree) (ht : t.bulk < 2 ^ 28) (hs : t.size ≤ 2 ^ 15) : Ev pr 49 [.nils, .fn (.func 47) [.at [.str t.fn, .sl 1 (ints t.vs), .sl 3 (trees t.ks)]]] (.ret [.own (.res 0) 3 (trees (splitT t))]) := by
  obtain ⟨l1, _, l3⟩ := split_len t.size t (Nat.le_refl _)
  have l2 := sq_le hs
  have l3 : 1 ≤ (splitT t).length := l3
  have hnone : ∀ d t', 1 < d → tabB (bA []) d t' = none := fun d t' hd => by
    unfold bA
    simp only [tabB, beq_no (show d ≠ 1 by omega), Bool.false_and]
  apply Ev.enter; intro c; (conv => arg 1; ext i; whnf)
  refine Evx.congrC (args' := [.yld 0, .d (.at [.str t.fn, .sl 1 (ints t.vs), .sl 3 (trees t.ks)])]) (g' := ⟨tabB (bA []), 1, [recA _]⟩) (fun _ => rfl) (fun _ => G_eq ?_ rfl rfl) ?_
  · refine tab_eq (by repeat (first | exact BSup.tab _ | exact BSup.g0 | apply BSup.dem | apply BSup.set | apply BSup.pop | apply BSup.hid | apply BSup.popG | apply BSup.un | apply BSup.lz)) (by kernel_rfl)
  refine parts_ev t.size t (Nat.le_refl _) (bsA _) (2 ^ 30) t.bulk (ydA (by kernel_rfl) _ _ (by decide)) (Nat.le_refl _) ht [] (by show 0 + _ ≤ _; omega) _ _ _ _ (Out.same_self (by simp [AV.firm, trees_firm])) ⟨Nat.le_refl _, rfl, Nat.lt_succ_self 0, fun d t' hd => rfl, hnone, fun i d t' hd => by show demBx i (tabB (bA [])) d t' = tabB (bA []) d t'; unfold demBx; rw [hnone d t' hd]⟩ ?_
  rintro ⟨B', d', lp'⟩ ha
  obtain rfl : d' = 1 := ha.dp
  obtain rfl : lp' = _ := ha.lp
  have h12 : B' 1 2 = some ⟨[avA (splitT t)], false⟩ := ha.lo 1 2 (Nat.le_refl _)
  rw [own_of l3] at h12
  (conv => arg 1; ext i; whnf)
  simp only [dem_ptr, demAll_ptr, G0_dp, Nat.zero_add, loadA_ptr, h12]
  (conv => arg 1; ext i; whnf)
  exact Evx.pure rfl

theorem collect_ev (t : Tree) (ht : t.bulk < 2 ^ 28) (hs : t.size ≤ 2 ^ 15) : Ev pr 39 [.fn (.func 47) [.at [.str t.fn, .sl 1 (ints t.vs), .sl 3 (trees t.ks)]]] (.ret [.own (.res 0) 3 (trees (splitT t))]) := by
  apply Ev.enter; intro c; (conv => arg 1; ext i; whnf)
  refine Evx.call (appendSeq_ev t ht hs) ?_
  (conv => arg 1; ext i; whnf)
  exact Evx.pure rfl
theorem split_ev (t : Tree) (ht : t.bulk < 2 ^ 28) (hs : t.size ≤ 2 ^ 15) : Ev pr 22 [t.d] (.ret [.own (.res 0) 3 (trees (splitT t))]) := by
  apply Ev.enter; intro c; (conv => arg 1; ext i; whnf)
  refine Evx.call (partsFn_ev t) ?_
  (conv => arg 1; ext i; whnf)
  refine Evx.call (collect_ev t ht hs) ?_
  (conv => arg 1; ext i; whnf)
  exact Evx.pure rfl

end Go.Proofs.YtfiefcfjedmhaaaDoor
