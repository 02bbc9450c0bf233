/- Steps that may change places: values. -/
import Derived.Test.YtfkfcjdoebjlfaaAbsRange
namespace Go.Abs
open Go
set_option linter.unusedVariables false
set_option linter.unusedSimpArgs false
set_option linter.unnecessarySimpa false

mutual
  def demP (p : Id → Bool) : AV → AV
    | .own j sz es => match p j with
      | true => .d (.sl sz es)
      | false => .own j sz es
    | .tup xs => .tup (demPs p xs)
    | a => a
  def demPs (p : Id → Bool) : List AV → List AV
    | [] => []
    | a :: as => demP p a :: demPs p as
end

mutual
  theorem dem_eq (i : Id) : ∀ a, dem i a = demP (fun j => decide (i = j)) a
    | .d _ => by simp [dem, demP]
    | .own j sz es => by
      simp only [dem, demP]
      by_cases h : i = j <;> simp [h]
    | .ptr _ _ _ => by simp [dem, demP]
    | .fn _ _ => by simp [dem, demP]
    | .tup xs => by simp only [dem, demP]; rw [dems_eq i xs]
    | .yld _ => by simp [dem, demP]
  theorem dems_eq (i : Id) : ∀ as, dems i as = demPs (fun j => decide (i = j)) as
    | [] => by simp [dems, demPs]
    | a :: as => by simp only [dems, demPs]; rw [dem_eq i a, dems_eq i as]
end

def isBoxB : Id → Bool
  | .box _ _ _ => true
  | _ => false

mutual
  theorem demBoxes_eq : ∀ a, demBoxes a = demP isBoxB a
    | .d _ => by simp [demBoxes, demP]
    | .own j sz es => by cases j <;> simp [demBoxes, demP, isBoxB]
    | .ptr _ _ _ => by simp [demBoxes, demP]
    | .fn _ _ => by simp [demBoxes, demP]
    | .tup xs => by simp only [demBoxes, demP]; rw [demBoxess_eq xs]
    | .yld _ => by simp [demBoxes, demP]
  theorem demBoxess_eq : ∀ as, demBoxess as = demPs isBoxB as
    | [] => by simp [demBoxess, demPs]
    | a :: as => by simp only [demBoxess, demPs]; rw [demBoxes_eq a, demBoxess_eq as]
end

mutual
  theorem demP_comp (p q : Id → Bool) : ∀ a, demP p (demP q a) = demP (fun j => q j || p j) a
    | .d _ => by simp [demP]
    | .own j sz es => by
      simp only [demP]
      cases q j with
      | true => simp [demP]
      | false => simp [demP]
    | .ptr _ _ _ => by simp [demP]
    | .fn _ _ => by simp [demP]
    | .tup xs => by simp only [demP]; rw [demPs_comp p q xs]
    | .yld _ => by simp [demP]
  theorem demPs_comp (p q : Id → Bool) : ∀ as, demPs p (demPs q as) = demPs (fun j => q j || p j) as
    | [] => by simp [demPs]
    | a :: as => by simp only [demPs]; rw [demP_comp p q a, demPs_comp p q as]
end

mutual
  theorem demP_none : ∀ a, demP (fun _ => false) a = a
    | .d _ => by simp [demP]
    | .own j sz es => by simp [demP]
    | .ptr _ _ _ => by simp [demP]
    | .fn _ _ => by simp [demP]
    | .tup xs => by simp only [demP]; rw [demPs_none xs]
    | .yld _ => by simp [demP]
  theorem demPs_none : ∀ as, demPs (fun _ => false) as = as
    | [] => by simp [demPs]
    | a :: as => by simp only [demPs]; rw [demP_none a, demPs_none as]
end

def Dem (φ : AV → AV) : Prop := ∃ p, φ = demP p
theorem Dem.id : Dem (fun a => a) := ⟨fun _ => false, funext fun a => (demP_none a).symm⟩
theorem Dem.dem (i : Id) : Dem (Abs.dem i) := ⟨_, funext (dem_eq i)⟩
theorem Dem.boxes : Dem demBoxes := ⟨_, funext demBoxes_eq⟩
theorem Dem.comp {φ ψ : AV → AV} (h : Dem φ) (k : Dem ψ) : Dem (fun a => φ (ψ a)) := by
  obtain ⟨p, rfl⟩ := h
  obtain ⟨q, rfl⟩ := k
  exact ⟨_, funext (demP_comp p q)⟩

/-! ### What demotion leaves as it is -/
section
variable {p : Id → Bool}

theorem data_dem : ∀ a : AV, (demP p a).data = a.data
  | .d _ => by simp [demP]
  | .own j sz es => by simp only [demP]; cases p j <;> simp [AV.data]
  | .ptr _ _ _ => by simp [demP]
  | .fn _ _ => by simp [demP]
  | .tup xs => by simp [demP, AV.data]
  | .yld _ => by simp [demP]

theorem row_dem (sz : Nat) : ∀ a : AV, AV.row sz (demP p a) = AV.row sz a
  | .d _ => by simp [demP]
  | .own j z es => by simp only [demP]; cases p j <;> simp [AV.row]
  | .ptr _ _ _ => by simp [demP]
  | .fn _ _ => by simp [demP]
  | .tup xs => by simp [demP, AV.row]
  | .yld _ => by simp [demP]

theorem elems_dem : ∀ a : AV, (demP p a).elems = a.elems
  | .d _ => by simp [demP]
  | .own j z es => by simp only [demP]; cases p j <;> simp [AV.elems]
  | .ptr _ _ _ => by simp [demP]
  | .fn _ _ => by simp [demP]
  | .tup xs => by simp [demP, AV.elems]
  | .yld _ => by simp [demP]

theorem intOf_dem : ∀ a : AV, intOf (demP p a) = intOf a
  | .d _ => by simp [demP]
  | .own j z es => by simp only [demP]; cases p j <;> simp [intOf]
  | .ptr _ _ _ => by simp [demP]
  | .fn _ _ => by simp [demP]
  | .tup xs => by simp [demP, intOf]
  | .yld _ => by simp [demP]

theorem cv_dem {v : Value} {a : AV} (h : cv v = some a) : demP p a = a := by
  unfold cv at h
  split at h <;> simp at h <;> subst h <;> simp [demP]

theorem ev_dem {tm tm' : Nat → Option AV} {x : Operand} (h : ∀ t, x = .tmp t → tm' t = (tm t).map (demP p)) : ev tm' x = (ev tm x).map (demP p) := by
  cases x with
  | tmp t => exact h t rfl
  | const v =>
    simp only [ev]
    cases hv : cv v with
    | none => rfl
    | some a => simp [cv_dem hv]
  | func f => simp [ev, demP]
  | global g => rfl

theorem evs_dem {tm tm' : Nat → Option AV} : ∀ {xs : List Operand}, (∀ t, Operand.tmp t ∈ xs → tm' t = (tm t).map (demP p)) → evs tm' xs = (evs tm xs).map (fun as => as.map (demP p))
  | [], _ => by simp [evs]
  | x :: xs, h => by
    simp only [evs]
    rw [ev_dem (tm := tm) (fun t e => h t (by simp [e])), evs_dem (tm := tm) (xs := xs) (fun t ht => h t (by simp [ht]))]
    cases ev tm x <;> simp
    cases evs tm xs <;> simp

variable {T : Nat → Option TI}

theorem buildCells_dem {E E' : Operand → Option AV} {fields : List (Nat × Nat)} : ∀ {parts : List (Nat × Operand)} {cs : List D}, (∀ q ∈ parts, E' q.2 = (E q.2).map (demP p)) → buildCells fields E' parts cs = buildCells fields E parts cs
  | [], cs, _ => rfl
  | (i, x) :: rest, cs, h => by
    simp only [buildCells]
    rw [h (i, x) (by simp)]
    cases E x with
    | none => rfl
    | some a =>
      simp only [Option.map_some, data_dem]
      cases a.data with
      | none => rfl
      | some v =>
        simp only
        cases fields[i]? with
        | none => rfl
        | some os =>
          obtain ⟨off, size⟩ := os
          simp only
          split
          · exact buildCells_dem (fun q hq => h q (by simp [hq]))
          · rfl

theorem partCells_dem {E E' : Operand → Option AV} {sz : Nat} : ∀ {parts : List (Nat × Operand)} {es : List (List D)}, (∀ q ∈ parts, E' q.2 = (E q.2).map (demP p)) → partCells sz E' parts es = partCells sz E parts es
  | [], es, _ => rfl
  | (i, x) :: rest, es, h => by
    simp only [partCells]
    rw [h (i, x) (by simp)]
    cases E x with
    | none => rfl
    | some a =>
      simp only [Option.map_some, data_dem]
      cases a.data with
      | none => rfl
      | some v =>
        simp only
        split
        · exact partCells_dem (fun q hq => h q (by simp [hq]))
        · rfl

theorem sliceD_dem (sz : Nat) (a : AV) (lo hi mx : Option Int) : sliceD sz (demP p a) lo hi mx = sliceD sz a lo hi mx ∧ (sliceD sz a lo hi mx).map (demP p) = sliceD sz a lo hi mx := by
  refine ⟨?_, ?_⟩
  · have hr := row_dem (p := p) sz a
    cases a with
    | own j z es =>
      simp only [demP] at hr ⊢
      cases hp : p j with
      | true =>
        rw [hp] at hr
        simp only at hr ⊢
        unfold sliceD
        split
        · rfl
        · simp only [hr]
      | false => rfl
    | tup xs => simp only [demP, sliceD, AV.row]
    | _ => simp [demP]
  · unfold sliceD
    repeat' split
    all_goals simp [demP]

theorem opLen_dem (k : Nat) (a : AV) : opLen k (demP p a) = opLen k a ∧ (opLen k a).map (demP p) = opLen k a := by
  refine ⟨?_, ?_⟩
  · unfold opLen
    split
    · rw [elems_dem]
    · cases a with
      | own j z es => simp only [demP]; cases p j <;> simp
      | tup xs => simp [demP]
      | _ => simp [demP]
    · rfl
  · unfold opLen
    repeat' split
    all_goals simp [demP]

theorem optI_dem {E E' : Operand → Option AV} {x : Option Operand} (h : ∀ y, x = some y → E' y = (E y).map (demP p)) : optI E' x = optI E x := by
  cases x with
  | none => rfl
  | some y =>
    simp only [optI]
    rw [h y rfl]
    cases E y with
    | none => rfl
    | some a => simp only [Option.map_some, intOf_dem]

theorem semV_dem (s : Sem Value) : (semV s).map (demP p) = semV s := by
  cases h : semV s with
  | none => rfl
  | some a =>
    obtain ⟨x, rfl⟩ := semV_d h
    simp [demP]

theorem get_demPs : ∀ (xs : List AV) (i : Nat), (demPs p xs)[i]? = (xs[i]?).map (demP p)
  | [], i => by simp [demPs]
  | x :: xs, i => by
    cases i with
    | zero => simp [demPs]
    | succ i => simpa [demPs] using get_demPs xs i

def valA : AV → Option Value
  | .d x => x.val
  | _ => none

theorem valA_dem : ∀ a : AV, valA (demP p a) = valA a
  | .d _ => by simp [demP]
  | .own j z es => by simp only [demP]; cases p j <;> rfl
  | .ptr _ _ _ => by simp [demP]
  | .fn _ _ => by simp [demP]
  | .tup xs => by simp [demP, valA]
  | .yld _ => by simp [demP]

theorem opB_eq (f : Value → Value → Sem Value) (a b : AV) : opB f a b = match valA a, valA b with
    | some u, some v => semV (f u v)
    | _, _ => none := by
  cases a with
  | d x =>
    cases b with
    | d y => rfl
    | _ => simp only [opB, valA]; cases x.val <;> rfl
  | _ => rfl

theorem opB_dem (f : Value → Value → Sem Value) (a b : AV) : opB f (demP p a) (demP p b) = (opB f a b).map (demP p) := by
  rw [opB_eq, opB_eq, valA_dem, valA_dem]
  cases valA a with
  | none => rfl
  | some u =>
    cases valA b with
    | none => rfl
    | some v => simp only; rw [semV_dem]

theorem nilQ_dem (k : Nat) (a : AV) : nilQ k (demP p a) = nilQ k a := by
  have he := elems_dem (p := p) a
  cases a with
  | own j z es =>
    simp only [demP] at he ⊢
    cases hp : p j with
    | true =>
      simp only
      unfold nilQ
      split <;> rfl
    | false => rfl
  | tup xs => simp only [demP]; unfold nilQ; split <;> rfl
  | _ => simp [demP]

theorem eqV_dem {T : Nat → Option TI} (t : Nat) (a b : AV) : eqV T t (demP p a) (demP p b) = eqV T t a b := by
  unfold eqV
  cases T t with
  | none => rfl
  | some ti =>
    simp only
    split
    · cases a with
      | d x =>
        cases b with
        | d y => simp [demP]
        | own j z es => (simp only [demP]) <;> (cases p j <;> cases x <;> rfl)
        | tup xs => (simp only [demP]) <;> (cases x <;> rfl)
        | _ => simp [demP]
      | own j z es => simp only [demP]; cases p j <;> rfl
      | tup xs => simp [demP]
      | _ => simp [demP]
    · rw [nilQ_dem, nilQ_dem]

theorem eqA_dem {T : Nat → Option TI} (op : BinOp) (t : Nat) (a b : AV) : eqA T op t (demP p a) (demP p b) = (eqA T op t a b).map (demP p) := by
  unfold eqA
  rw [eqV_dem]
  cases eqV T t a b with
  | none => rfl
  | some r => cases op <;> simp [demP]

/-- What a looking operation yields, seen through a demotion. -/
theorem opP_dem {E E' : Operand → Option AV} {op : Op} (h : ∀ x ∈ op.operands.toList, E' x = (E x).map (demP p)) : opP T E' op = (opP T E op).map (demP p) := by
  cases op with
  | move x => exact h x (by simp [Op.operands])
  | assign x => exact h x (by simp [Op.operands])
  | pick c a b =>
    have hc := h c (by simp [Op.operands])
    have ha := h a (by simp [Op.operands])
    have hb := h b (by simp [Op.operands])
    simp only [opP]
    rw [hc]
    cases E c with
    | none => rfl
    | some v =>
      cases v with
      | d x =>
        simp only [Option.map_some, demP]
        cases x with
        | bool b => cases b <;> simp only [ha, hb]
        | _ => rfl
      | own j z es => simp only [Option.map_some, demP]; cases p j <;> rfl
      | _ => simp [demP]
  | build t parts =>
    simp only [opP]
    have hb : ∀ q ∈ parts.toList, E' q.2 = (E q.2).map (demP p) := fun q hq => h q.2 (by simp [Op.operands]; exact ⟨q.1, by simpa using hq⟩)
    cases T t with
    | none => rfl
    | some ti =>
      simp only
      split
      · rw [buildCells_dem hb]
        cases buildCells ti.fields E parts.toList ti.zero <;> simp [demP]
      · rfl
  | fieldAddr t x f =>
    have hx := h x (by simp [Op.operands])
    simp only [opP]
    rw [hx]
    cases T t with
    | none => rfl
    | some ti =>
      simp only
      cases E x with
      | none => simp
      | some v =>
        cases v with
        | own j z es =>
          simp only [Option.map_some, demP]
          cases p j <;> simp
        | tup xs => simp [demP]
        | d y =>
          simp only [Option.map_some, demP]
          repeat' split
          all_goals simp [demP]
        | ptr _ _ _ =>
          simp only [Option.map_some, demP]
          repeat' split
          all_goals simp [demP]
        | fn _ _ => simp [demP]
        | yld _ => simp [demP]
  | indexAddr t x i =>
    have hx := h x (by simp [Op.operands])
    have hi := h i (by simp [Op.operands])
    simp only [opP]
    rw [hx, hi]
    cases T t with
    | none => rfl
    | some ti =>
      simp only
      split
      · cases T ti.elem with
        | none => rfl
        | some te =>
          simp only
          cases E x with
          | none => rfl
          | some a =>
            simp only [Option.map_some, row_dem]
            cases AV.row te.size a with
            | none => rfl
            | some es =>
              simp only
              cases E i with
              | none => rfl
              | some b =>
                simp only [Option.map_some, intOf_dem]
                repeat' split
                all_goals simp [demP]
      · rfl
  | index t x i =>
    have hx := h x (by simp [Op.operands])
    have hi := h i (by simp [Op.operands])
    simp only [opP]
    rw [hx, hi]
    cases T t with
    | none => rfl
    | some ti =>
      simp only
      cases E x with
      | none => simp
      | some v =>
        cases v with
        | own j z es =>
          simp only [Option.map_some, demP]
          cases p j <;> simp
        | tup xs => simp [demP]
        | d y =>
          simp only [Option.map_some, demP]
          cases E i with
          | none =>
            simp only [Option.map_none]
            repeat' split
            all_goals simp [demP]
          | some b =>
            simp only [Option.map_some, intOf_dem]
            repeat' split
            all_goals simp [demP]
        | ptr _ _ _ => simp [demP]
        | fn _ _ => simp [demP]
        | yld _ => simp [demP]
  | slice t x lo hi mx =>
    have hx := h x (by simp [Op.operands])
    have hlo : optI E' lo = optI E lo := optI_dem fun y hy => h y (by simp [Op.operands, hy])
    have hhi : optI E' hi = optI E hi := optI_dem fun y hy => h y (by simp [Op.operands, hy])
    have hmx : optI E' mx = optI E mx := optI_dem fun y hy => h y (by simp [Op.operands, hy])
    simp only [opP]
    rw [hx, hlo, hhi, hmx]
    cases T t with
    | none => rfl
    | some ti =>
      simp only
      cases E x with
      | none => simp
      | some a =>
        simp only [Option.map_some]
        cases optI E lo with
        | none => simp
        | some l =>
          cases optI E hi with
          | none => simp
          | some h' =>
            cases optI E mx with
            | none => simp
            | some m =>
              generalize ti.kind = kk
              rcases kk with _ | _ | _ | _ | kk
              · rfl
              · rfl
              · simp only
                cases T ti.elem with
                | none => rfl
                | some te =>
                  simp only
                  rw [(sliceD_dem te.size a l h' m).1, (sliceD_dem te.size a l h' m).2]
              · cases a with
                | own j z es =>
                  simp only [demP]
                  cases p j <;> rfl
                | d y =>
                  simp only [demP]
                  cases y with
                  | str s =>
                    cases m with
                    | none =>
                      simp only
                      split <;> simp [demP]
                    | some m => rfl
                  | _ => rfl
                | _ => rfl
              · rfl
  | extract x i =>
    have hx := h x (by simp [Op.operands])
    simp only [opP]
    rw [hx]
    cases E x with
    | none => rfl
    | some v =>
      cases v with
      | tup xs => simp only [Option.map_some, demP]; exact get_demPs xs i
      | own j z es =>
        simp only [Option.map_some, demP]
        cases p j <;> rfl
      | _ => simp [demP]
  | binOp o t x y z =>
    have hx := h x (by simp [Op.operands])
    have hy := h y (by simp [Op.operands])
    simp only [opP]
    rw [hx, hy]
    cases E x with
    | none => rfl
    | some a =>
      cases E y with
      | none => rfl
      | some b =>
        simp only [Option.map_some]
        rw [opB_dem]
        cases opB (Go.binOp o t) a b with
        | some v => rfl
        | none => exact (eqA_dem (T := T) o t a b)
  | unOp o t x =>
    have hx := h x (by simp [Op.operands])
    simp only [opP]
    rw [hx]
    cases E x with
    | none => rfl
    | some a =>
      cases a with
      | d u =>
        simp only [Option.map_some, demP]
        cases u.val with
        | none => rfl
        | some v => simp only; rw [semV_dem]
      | own j z es =>
        simp only [Option.map_some, demP]
        cases p j <;> simp [D.val]
      | _ => simp [demP]
  | call c =>
    simp only [opP, lenA]
    split
    · rename_i hl
      split
      · rename_i x t ts hargs htys
        have hx := h x (by
          have : x ∈ c.args.toList := by rw [hargs]; simp
          simp [Op.operands, Call.operands]
          exact .inr (by simpa using this))
        rw [hx]
        cases T t with
        | none => rfl
        | some ti =>
          simp only
          cases E x with
          | none => rfl
          | some a => simp only [Option.map_some]; rw [(opLen_dem ti.kind a).1, (opLen_dem ti.kind a).2]
      · rfl
    · rfl
  | _ => rfl
end
end Go.Abs
