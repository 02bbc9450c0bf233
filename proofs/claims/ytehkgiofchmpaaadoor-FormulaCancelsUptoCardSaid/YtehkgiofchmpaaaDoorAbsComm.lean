/- Steps that may change places: values. -/
import Derived.Test.YtehkgiofchmpaaaDoorAbsRange
namespace Go.Abs
open Go
set_option linter.unusedVariables false
set_option linter.unusedSimpArgs false
set_option linter.unnecessarySimpa false

/-- What is let go, what turns in raw rows, what goes over to other names. -/
structure Pz where
  p : Id → Bool
  q : Id → Nat → Bool
  f : Id → List (List D) → List (List D)
  len : ∀ i es, (f i es).length = es.length
  g : Id → Id

instance : CoeFun Pz (fun _ => Id → Bool) := ⟨Pz.p⟩

def Pz.of (p : Id → Bool) : Pz := ⟨p, fun _ _ => false, fun _ es => es, fun _ _ => rfl, fun j => j⟩
def Pz.comp (p q : Pz) : Pz := ⟨fun j => q.p j || p.p (q.g j), fun j z => q.q j z || p.q (q.g j) z, fun j es => p.f (q.g j) (q.f j es), fun j es => by rw [p.len, q.len], fun j => p.g (q.g j)⟩

mutual
  def demP (p : Pz) : AV → AV
    | .own j sz es => match p.p j with
      | true => .d (.sl sz es)
      | false => .own (p.g j) sz es
    | .raw o k j sz es => match p.p j || p.q j sz with
      | true => .old o sz es.length
      | false => .raw o k (p.g j) sz (p.f j es)
    | .tup xs => .tup (demPs p xs)
    | a => a
  def demPs (p : Pz) : List AV → List AV
    | [] => []
    | a :: as => demP p a :: demPs p as
end

mutual
  theorem dem_eq (i : Id) : ∀ a, dem i a = demP (Pz.of fun j => decide (i = j)) a
    | .d _ => by simp [dem, demP]
    | .own j sz es => by
      simp only [dem, demP]
      by_cases h : i = j <;> simp [h, Pz.of]
    | .ptr _ _ _ => by simp [dem, demP]
    | .fn _ _ => by simp [dem, demP]
    | .tup xs => by simp only [dem, demP]; rw [dems_eq i xs]
    | .yld _ => by simp [dem, demP]
    | .old _ _ _ => by simp [dem, demP]
    | .raw o k j sz es => by
      simp only [dem, demP]
      by_cases h : i = j <;> simp [h, Pz.of]
  theorem dems_eq (i : Id) : ∀ as, dems i as = demPs (Pz.of fun j => decide (i = j)) as
    | [] => by simp [dems, demPs]
    | a :: as => by simp only [dems, demPs]; rw [dem_eq i a, dems_eq i as]
end

def isBoxB : Id → Bool
  | .box _ _ _ => true
  | _ => false

mutual
  theorem demBoxes_eq : ∀ a, demBoxes a = demP (Pz.of isBoxB) a
    | .d _ => by simp [demBoxes, demP]
    | .own j sz es => by cases j <;> simp [demBoxes, demP, isBoxB, Pz.of]
    | .ptr _ _ _ => by simp [demBoxes, demP]
    | .fn _ _ => by simp [demBoxes, demP]
    | .tup xs => by simp only [demBoxes, demP]; rw [demBoxess_eq xs]
    | .yld _ => by simp [demBoxes, demP]
    | .old _ _ _ => by simp [demBoxes, demP]
    | .raw o k j sz es => by cases j <;> simp [demBoxes, demP, isBoxB, Pz.of]
  theorem demBoxess_eq : ∀ as, demBoxess as = demPs (Pz.of isBoxB) as
    | [] => by simp [demBoxess, demPs]
    | a :: as => by simp only [demBoxess, demPs]; rw [demBoxes_eq a, demBoxess_eq as]
end

mutual
  theorem demF_eq (f : Nat → Bool) : ∀ a, demF f a = demP (Pz.of (boxAt f)) a
    | .d _ => by simp [demF, demP]
    | .own j sz es => by
      cases j with
      | box d _ _ => simp only [demF, demP, boxAt, Pz.of]; cases f d <;> rfl
      | _ => simp [demF, demP, boxAt, Pz.of]
    | .ptr _ _ _ => by simp [demF, demP]
    | .fn _ _ => by simp [demF, demP]
    | .tup xs => by simp only [demF, demP]; rw [demFs_eq f xs]
    | .yld _ => by simp [demF, demP]
    | .old _ _ _ => by simp [demF, demP]
    | .raw o k j sz es => by
      cases j with
      | box d _ _ => simp only [demF, demP, boxAt, Pz.of]; cases f d <;> rfl
      | _ => simp [demF, demP, boxAt, Pz.of]
  theorem demFs_eq (f : Nat → Bool) : ∀ as, demFs f as = demPs (Pz.of (boxAt f)) as
    | [] => by simp [demFs, demPs]
    | a :: as => by simp only [demFs, demPs]; rw [demF_eq f a, demFs_eq f as]
end

mutual
  theorem demP_comp (p q : Pz) : ∀ a, demP p (demP q a) = demP (p.comp q) a
    | .d _ => by simp [demP]
    | .own j sz es => by
      simp only [demP, Pz.comp]
      cases q.p j with
      | true => simp [demP]
      | false => simp [demP]
    | .ptr _ _ _ => by simp [demP]
    | .fn _ _ => by simp [demP]
    | .tup xs => by simp only [demP]; rw [demPs_comp p q xs]
    | .yld _ => by simp [demP]
    | .old _ _ _ => by simp [demP]
    | .raw o k j sz es => by
      simp only [demP, Pz.comp]
      cases q.p j <;> cases q.q j sz <;> cases hp : p.p (q.g j) <;> cases hq : p.q (q.g j) sz <;> simp [demP, hp, hq, q.len]
  theorem demPs_comp (p q : Pz) : ∀ as, demPs p (demPs q as) = demPs (p.comp q) as
    | [] => by simp [demPs]
    | a :: as => by simp only [demPs]; rw [demP_comp p q a, demPs_comp p q as]
end

mutual
  theorem demP_none : ∀ a, demP (Pz.of fun _ => false) a = a
    | .d _ => by simp [demP]
    | .own j sz es => by simp [demP, Pz.of]
    | .ptr _ _ _ => by simp [demP]
    | .fn _ _ => by simp [demP]
    | .tup xs => by simp only [demP]; rw [demPs_none xs]
    | .yld _ => by simp [demP]
    | .old _ _ _ => by simp [demP]
    | .raw o k j sz es => by simp [demP, Pz.of]
  theorem demPs_none : ∀ as, demPs (Pz.of fun _ => false) as = as
    | [] => by simp [demPs]
    | a :: as => by simp only [demPs]; rw [demP_none a, demPs_none as]
end

/-- An element set, as such a map. -/
def Pz.set (i : Id) (n sz : Nat) (c : List D) : Pz := ⟨fun _ => false, fun j z => decide (i = j) && !(Nat.beq z sz), fun j es => if i = j then es.set n c else es, fun j es => by split <;> simp, fun j => j⟩
mutual
  theorem setRaw_eq (i : Id) (n sz : Nat) (c : List D) : ∀ a, setRaw i n sz c a = demP (Pz.set i n sz c) a
    | .d _ => by simp [setRaw, demP]
    | .own j z es => by simp [setRaw, demP, Pz.set]
    | .ptr _ _ _ => by simp [setRaw, demP]
    | .fn _ _ => by simp [setRaw, demP]
    | .tup xs => by simp only [setRaw, demP]; rw [setRaws_eq i n sz c xs]
    | .yld _ => by simp [setRaw, demP]
    | .old _ _ _ => by simp [setRaw, demP]
    | .raw o k j z es => by
      simp only [setRaw, demP, Pz.set]
      by_cases h : i = j
      · cases hz : Nat.beq z sz <;> simp [h]
      · simp [h]
  theorem setRaws_eq (i : Id) (n sz : Nat) (c : List D) : ∀ as, setRaws i n sz c as = demPs (Pz.set i n sz c) as
    | [] => by simp [setRaws, demPs]
    | a :: as => by simp only [setRaws, demPs]; rw [setRaw_eq i n sz c a, setRaws_eq i n sz c as]
end

/-- Another name, as such a map. -/
def Pz.ren (i nm : Id) : Pz := ⟨fun _ => false, fun _ _ => false, fun _ es => es, fun _ _ => rfl, fun j => if i = j then nm else j⟩
mutual
  theorem renA_eq (i nm : Id) : ∀ a, renA i nm a = demP (Pz.ren i nm) a
    | .d _ => by simp [renA, demP]
    | .own j z es => by simp [renA, demP, Pz.ren]
    | .ptr _ _ _ => by simp [renA, demP]
    | .fn _ _ => by simp [renA, demP]
    | .tup xs => by simp only [renA, demP]; rw [renAs_eq i nm xs]
    | .yld _ => by simp [renA, demP]
    | .old _ _ _ => by simp [renA, demP]
    | .raw o k j z es => by simp [renA, demP, Pz.ren]
  theorem renAs_eq (i nm : Id) : ∀ as, renAs i nm as = demPs (Pz.ren i nm) as
    | [] => by simp [renAs, demPs]
    | a :: as => by simp only [renAs, demPs]; rw [renA_eq i nm a, renAs_eq i nm as]
end

def Dem (φ : AV → AV) : Prop := ∃ p, φ = demP p
theorem Dem.id : Dem (fun a => a) := ⟨Pz.of fun _ => false, funext fun a => (demP_none a).symm⟩
theorem Dem.dem (i : Id) : Dem (Abs.dem i) := ⟨_, funext (dem_eq i)⟩
theorem Dem.boxes : Dem demBoxes := ⟨_, funext demBoxes_eq⟩
theorem Dem.demF (f : Nat → Bool) : Dem (Abs.demF f) := ⟨_, funext (demF_eq f)⟩
theorem Dem.comp {φ ψ : AV → AV} (h : Dem φ) (k : Dem ψ) : Dem (fun a => φ (ψ a)) := by
  obtain ⟨p, rfl⟩ := h
  obtain ⟨q, rfl⟩ := k
  exact ⟨_, funext (demP_comp p q)⟩

/-! ### What demotion leaves as it is -/
section
variable {p : Pz}

theorem data_dem : ∀ a : AV, (demP p a).data = a.data
  | .d _ => by simp [demP]
  | .own j sz es => by simp only [demP]; cases p.p j <;> simp [AV.data]
  | .ptr _ _ _ => by simp [demP]
  | .fn _ _ => by simp [demP]
  | .tup xs => by simp [demP, AV.data]
  | .yld _ => by simp [demP]
  | .old _ _ _ => by simp [demP]
  | .raw o k j z es => by simp only [demP]; cases (p.p j || p.q j z) <;> simp [AV.data]

theorem row_dem (sz : Nat) : ∀ a : AV, AV.row sz (demP p a) = AV.row sz a
  | .d _ => by simp [demP]
  | .own j z es => by simp only [demP]; cases p.p j <;> simp [AV.row]
  | .ptr _ _ _ => by simp [demP]
  | .fn _ _ => by simp [demP]
  | .tup xs => by simp [demP, AV.row]
  | .yld _ => by simp [demP]
  | .old _ _ _ => by simp [demP]
  | .raw o k j z es => by simp only [demP]; cases (p.p j || p.q j z) <;> simp [AV.row]

theorem elems_dem : ∀ a : AV, (demP p a).elems = a.elems
  | .d _ => by simp [demP]
  | .own j z es => by simp only [demP]; cases p.p j <;> simp [AV.elems]
  | .ptr _ _ _ => by simp [demP]
  | .fn _ _ => by simp [demP]
  | .tup xs => by simp [demP, AV.elems]
  | .yld _ => by simp [demP]
  | .old _ _ _ => by simp [demP]
  | .raw o k j z es => by simp only [demP]; cases (p.p j || p.q j z) <;> simp [AV.elems]

theorem intOf_dem : ∀ a : AV, intOf (demP p a) = intOf a
  | .d _ => by simp [demP]
  | .own j z es => by simp only [demP]; cases p.p j <;> simp [intOf]
  | .ptr _ _ _ => by simp [demP]
  | .fn _ _ => by simp [demP]
  | .tup xs => by simp [demP, intOf]
  | .yld _ => by simp [demP]
  | .old _ _ _ => by simp [demP]
  | .raw o k j z es => by simp only [demP]; cases (p.p j || p.q j z) <;> simp [intOf]

theorem cv_dem {v : Value} {a : AV} (h : cv v = some a) : demP p a = a := by
  obtain ⟨x, rfl⟩ := cv_d h
  simp [demP]

theorem ev_dem {tm tm' : Nat → Option AV} {x : Operand} (h : ∀ t, x = .tmp t → tm' t = (tm t).map (demP p)) : ev tm' x = (ev tm x).map (demP p) := by
  cases x with
  | tmp t => exact h t rfl
  | const v =>
    simp only [ev]
    cases hv : cv v with
    | none => rfl
    | some a => simp [cv_dem hv]
  | func f => simp [ev, demP]
  | global g => rfl

theorem evs_dem {tm tm' : Nat → Option AV} : ∀ {xs : List Operand}, (∀ t, Operand.tmp t ∈ xs → tm' t = (tm t).map (demP p)) → evs tm' xs = (evs tm xs).map (fun as => as.map (demP p))
  | [], _ => by simp [evs]
  | x :: xs, h => by
    simp only [evs]
    rw [ev_dem (tm := tm) (fun t e => h t (by simp [e])), evs_dem (tm := tm) (xs := xs) (fun t ht => h t (by simp [ht]))]
    cases ev tm x <;> simp
    cases evs tm xs <;> simp

variable {T : Nat → Option TI}

theorem buildCells_dem {E E' : Operand → Option AV} {fields : List (Nat × Nat)} : ∀ {parts : List (Nat × Operand)} {cs : List D}, (∀ q ∈ parts, E' q.2 = (E q.2).map (demP p)) → buildCells fields E' parts cs = buildCells fields E parts cs
  | [], cs, _ => rfl
  | (i, x) :: rest, cs, h => by
    simp only [buildCells]
    rw [h (i, x) (by simp)]
    cases E x with
    | none => rfl
    | some a =>
      simp only [Option.map_some, data_dem]
      cases a.data with
      | none => rfl
      | some v =>
        simp only
        cases fields[i]? with
        | none => rfl
        | some os =>
          obtain ⟨off, size⟩ := os
          simp only
          split
          · exact buildCells_dem (fun q hq => h q (by simp [hq]))
          · rfl

theorem partCells_dem {E E' : Operand → Option AV} {sz : Nat} : ∀ {parts : List (Nat × Operand)} {es : List (List D)}, (∀ q ∈ parts, E' q.2 = (E q.2).map (demP p)) → partCells sz E' parts es = partCells sz E parts es
  | [], es, _ => rfl
  | (i, x) :: rest, es, h => by
    simp only [partCells]
    rw [h (i, x) (by simp)]
    cases E x with
    | none => rfl
    | some a =>
      simp only [Option.map_some, data_dem]
      cases a.data with
      | none => rfl
      | some v =>
        simp only
        split
        · exact partCells_dem (fun q hq => h q (by simp [hq]))
        · rfl

theorem sliceD_dem (sz : Nat) (a : AV) (lo hi mx : Option Int) : sliceD sz (demP p a) lo hi mx = sliceD sz a lo hi mx ∧ (sliceD sz a lo hi mx).map (demP p) = sliceD sz a lo hi mx := by
  refine ⟨?_, ?_⟩
  · have hr := row_dem (p := p) sz a
    cases a with
    | own j z es =>
      simp only [demP] at hr ⊢
      cases hp : p.p j with
      | true =>
        rw [hp] at hr
        simp only at hr ⊢
        unfold sliceD
        split
        · rfl
        · simp only [hr]
      | false => rfl
    | tup xs => simp only [demP, sliceD, AV.row]
    | raw o k j z es => simp only [demP]; cases (p.p j || p.q j z) <;> simp [sliceD, AV.row]
    | _ => simp [demP]
  · unfold sliceD
    repeat' split
    all_goals simp [demP]

theorem zeroT_dem (ti : TI) : (zeroT ti).map (demP p) = zeroT ti := by
  unfold zeroT
  cases ti.agg with
  | true => simp [demP, demPs]
  | false =>
    dsimp only
    split <;> simp [demP, demPs]

theorem extA_dem (mx : Bool) (a b : AV) : extA mx (demP p a) (demP p b) = extA mx a b ∧ (extA mx a b).map (demP p) = extA mx a b := by
  constructor
  · cases a with
    | d x =>
      cases b with
      | own j z es => simp only [demP]; cases p.p j <;> cases x <;> rfl
      | raw o k j z es => simp only [demP]; cases (p.p j || p.q j z) <;> cases x <;> rfl
      | d y => rfl
      | _ => cases x <;> rfl
    | own j z es => simp only [demP]; cases p.p j <;> rfl
    | raw o k j z es => simp only [demP]; cases (p.p j || p.q j z) <;> rfl
    | _ => rfl
  · unfold extA
    split <;> rfl

theorem opLen_dem (k : Nat) (a : AV) : opLen k (demP p a) = opLen k a ∧ (opLen k a).map (demP p) = opLen k a := by
  refine ⟨?_, ?_⟩
  · unfold opLen
    split
    · rw [elems_dem]
    · cases a with
      | own j z es => simp only [demP]; cases p.p j <;> simp
      | raw o k j z es => simp only [demP]; cases (p.p j || p.q j z) <;> simp
      | tup xs => simp [demP]
      | _ => simp [demP]
    · rfl
  · unfold opLen
    repeat' split
    all_goals simp [demP]

theorem optI_dem {E E' : Operand → Option AV} {x : Option Operand} (h : ∀ y, x = some y → E' y = (E y).map (demP p)) : optI E' x = optI E x := by
  cases x with
  | none => rfl
  | some y =>
    simp only [optI]
    rw [h y rfl]
    cases E y with
    | none => rfl
    | some a => simp only [Option.map_some, intOf_dem]

theorem semV_dem (s : Sem Value) : (semV s).map (demP p) = semV s := by
  cases h : semV s with
  | none => rfl
  | some a =>
    obtain ⟨x, rfl⟩ := semV_d h
    simp [demP]

theorem get_demPs : ∀ (xs : List AV) (i : Nat), (demPs p xs)[i]? = (xs[i]?).map (demP p)
  | [], i => by simp [demPs]
  | x :: xs, i => by
    cases i with
    | zero => simp [demPs]
    | succ i => simpa [demPs] using get_demPs xs i

def valA : AV → Option Value
  | .d x => x.val
  | _ => none

theorem valA_dem : ∀ a : AV, valA (demP p a) = valA a
  | .d _ => by simp [demP]
  | .own j z es => by simp only [demP]; cases p.p j <;> rfl
  | .ptr _ _ _ => by simp [demP]
  | .fn _ _ => by simp [demP]
  | .tup xs => by simp [demP, valA]
  | .yld _ => by simp [demP]
  | .old _ _ _ => by simp [demP]
  | .raw o k j z es => by simp only [demP]; cases (p.p j || p.q j z) <;> rfl

theorem opB_eq (f : Value → Value → Sem Value) (a b : AV) : opB f a b = match valA a, valA b with
    | some u, some v => semV (f u v)
    | _, _ => none := by
  cases a with
  | d x =>
    cases b with
    | d y => rfl
    | _ => simp only [opB, valA]; cases x.val <;> rfl
  | _ => rfl

theorem opB_dem (f : Value → Value → Sem Value) (a b : AV) : opB f (demP p a) (demP p b) = (opB f a b).map (demP p) := by
  rw [opB_eq, opB_eq, valA_dem, valA_dem]
  cases valA a with
  | none => rfl
  | some u =>
    cases valA b with
    | none => rfl
    | some v => simp only; rw [semV_dem]

theorem nilQ_dem (k : Nat) (a : AV) : nilQ k (demP p a) = nilQ k a := by
  have he := elems_dem (p := p) a
  cases a with
  | own j z es =>
    simp only [demP] at he ⊢
    cases hp : p.p j with
    | true =>
      simp only
      unfold nilQ
      split <;> rfl
    | false => rfl
  | raw o k j z es =>
    simp only [demP] at he ⊢
    cases hp : (p.p j || p.q j z) with
    | true =>
      simp only
      unfold nilQ
      split <;> rfl
    | false => rfl
  | tup xs => simp only [demP]; unfold nilQ; split <;> rfl
  | _ => simp [demP]

theorem eqV_dem {T : Nat → Option TI} (t : Nat) (a b : AV) : eqV T t (demP p a) (demP p b) = eqV T t a b := by
  unfold eqV
  cases T t with
  | none => rfl
  | some ti =>
    simp only
    split
    · cases a with
      | d x =>
        cases b with
        | d y => simp [demP]
        | own j z es => (simp only [demP]) <;> (cases p.p j <;> cases x <;> rfl)
        | raw o k j z es => (simp only [demP]) <;> (cases (p.p j || p.q j z) <;> cases x <;> rfl)
        | tup xs => (simp only [demP]) <;> (cases x <;> rfl)
        | _ => simp [demP]
      | own j z es => simp only [demP]; cases p.p j <;> rfl
      | raw o k j z es => simp only [demP]; cases (p.p j || p.q j z) <;> rfl
      | tup xs => simp [demP]
      | _ => simp [demP]
    · rw [nilQ_dem, nilQ_dem]

theorem eqA_dem {T : Nat → Option TI} (op : BinOp) (t : Nat) (a b : AV) : eqA T op t (demP p a) (demP p b) = (eqA T op t a b).map (demP p) := by
  unfold eqA
  rw [eqV_dem]
  cases eqV T t a b with
  | none => rfl
  | some r => cases op <;> simp [demP]

theorem refs_dem (sz : Nat) (n : Int) (a : AV) :
    (match AV.refs sz (demP p a) with
      | some es => if 0 ≤ n then match es[n.toNat]? with
          | some e => some (AV.elem n.toNat e (demP p a))
          | none => none
        else none
      | none => none) = (match AV.refs sz a with
      | some es => if 0 ≤ n then match es[n.toNat]? with
          | some e => some (AV.elem n.toNat e a)
          | none => none
        else none
      | none => none).map (demP p) := by
  have dflt : ∀ (a : AV), demP p a = a → (∀ e, demP p (AV.elem n.toNat e a) = AV.elem n.toNat e a) → (match AV.refs sz a with
      | some es => if 0 ≤ n then match es[n.toNat]? with
          | some e => some (AV.elem n.toNat e a)
          | none => none
        else none
      | none => none) = (match AV.refs sz a with
      | some es => if 0 ≤ n then match es[n.toNat]? with
          | some e => some (AV.elem n.toNat e a)
          | none => none
        else none
      | none => none).map (demP p) := by
    intro a _ h
    repeat' split
    all_goals simp [h]
  cases a with
  | own j z es =>
    have hr := row_dem (p := p) sz (.own j z es)
    simp only [demP] at hr ⊢
    cases hp : p.p j with
    | true =>
      rw [hp] at hr
      simp only at hr ⊢
      simp only [AV.refs, AV.elem, hr]
      repeat' split
      all_goals simp [demP]
    | false =>
      have e0 : AV.row sz (.own (p.g j) z es) = AV.row sz (.own j z es) := rfl
      simp only [AV.refs, AV.elem, e0]
      repeat' split
      all_goals simp [demP]
  | raw o k j z es =>
    simp only [demP]
    cases hp : (p.p j || p.q j z) with
    | true =>
      cases o with
      | none =>
        simp only [AV.refs, AV.elem]
        cases Nat.beq z sz with
        | false => rfl
        | true =>
          simp only [if_true]
          by_cases h0 : 0 ≤ n
          · simp only [if_pos h0]
            by_cases hlt : n.toNat < es.length
            · rw [List.getElem?_eq_getElem (by simpa using hlt), List.getElem?_eq_getElem hlt]
              simp [demP, hp]
            · rw [List.getElem?_eq_none (by simpa using hlt), List.getElem?_eq_none (by omega)]
              rfl
          · simp only [if_neg h0]; rfl
      | some m => simp [AV.refs, AV.row]
    | false => 
      cases o with
      | none =>
        simp only [AV.refs, AV.elem]
        cases Nat.beq z sz with
        | false => rfl
        | true =>
          simp only [if_true]
          by_cases h0 : 0 ≤ n
          · simp only [if_pos h0]
            have hlen := p.len j es
            by_cases hlt : n.toNat < es.length
            · rw [List.getElem?_eq_getElem (by omega), List.getElem?_eq_getElem hlt]
              simp [demP, hp]
            · rw [List.getElem?_eq_none (by omega), List.getElem?_eq_none (by omega)]
              rfl
          · simp only [if_neg h0]; rfl
      | some m => simp [AV.refs, AV.row]
  | old o z m =>
    simp only [demP]
    cases o <;> (simp only [AV.refs, AV.elem]; repeat' split) <;> simp [demP]
  | tup xs => simp [demP, AV.refs, AV.row]
  | _ => simp only [demP]; simp only [AV.refs, AV.elem]; repeat' split
         all_goals simp [demP]

/-- What a looking operation yields, seen through a demotion. -/
theorem opP_dem {E E' : Operand → Option AV} {op : Op} (h : ∀ x ∈ op.operands.toList, E' x = (E x).map (demP p)) : opP T E' op = (opP T E op).map (demP p) := by
  cases op with
  | move x => exact h x (by simp [Op.operands])
  | assign x => exact h x (by simp [Op.operands])
  | pick c a b =>
    have hc := h c (by simp [Op.operands])
    have ha := h a (by simp [Op.operands])
    have hb := h b (by simp [Op.operands])
    simp only [opP]
    rw [hc]
    cases E c with
    | none => rfl
    | some v =>
      cases v with
      | d x =>
        simp only [Option.map_some, demP]
        cases x with
        | bool b => cases b <;> simp only [ha, hb]
        | _ => rfl
      | own j z es => simp only [Option.map_some, demP]; cases p.p j <;> rfl
      | raw o k j z es => simp only [Option.map_some, demP]; cases (p.p j || p.q j z) <;> rfl
      | _ => simp [demP]
  | build t parts =>
    simp only [opP]
    have hb : ∀ q ∈ parts.toList, E' q.2 = (E q.2).map (demP p) := fun q hq => h q.2 (by simp [Op.operands]; exact ⟨q.1, by simpa using hq⟩)
    cases T t with
    | none => rfl
    | some ti =>
      simp only
      split
      · rw [buildCells_dem hb]
        cases buildCells ti.fields E parts.toList ti.zero <;> simp [demP]
      · rfl
  | fieldAddr t x f =>
    have hx := h x (by simp [Op.operands])
    simp only [opP]
    rw [hx]
    cases T t with
    | none => rfl
    | some ti =>
      simp only
      cases E x with
      | none => simp
      | some v =>
        cases v with
        | own j z es =>
          simp only [Option.map_some, demP]
          cases p.p j <;> simp
        | tup xs => simp [demP]
        | raw o k j z es =>
          simp only [Option.map_some, demP]
          cases (p.p j || p.q j z) <;> simp
        | old _ _ _ => simp [demP]
        | d y =>
          simp only [Option.map_some, demP]
          repeat' split
          all_goals simp [demP]
        | ptr _ _ _ =>
          simp only [Option.map_some, demP]
          repeat' split
          all_goals simp [demP]
        | fn _ _ => simp [demP]
        | yld _ => simp [demP]
  | indexAddr t x i =>
    have hx := h x (by simp [Op.operands])
    have hi := h i (by simp [Op.operands])
    simp only [opP]
    rw [hx, hi]
    cases T t with
    | none => rfl
    | some ti =>
      simp only
      split
      · cases T ti.elem with
        | none => rfl
        | some te =>
          simp only
          cases E x with
          | none => rfl
          | some a =>
            simp only [Option.map_some]
            cases hE : E i with
            | none =>
              simp only [Option.map_none]
              cases AV.refs te.size (demP p a) <;> cases AV.refs te.size a <;> rfl
            | some b =>
              simp only [Option.map_some, intOf_dem]
              cases intOf b with
              | none => cases AV.refs te.size (demP p a) <;> cases AV.refs te.size a <;> rfl
              | some n =>
                simp only
                exact refs_dem te.size n a
      · rfl
  | index t x i =>
    have hx := h x (by simp [Op.operands])
    have hi := h i (by simp [Op.operands])
    simp only [opP]
    rw [hx, hi]
    cases T t with
    | none => rfl
    | some ti =>
      simp only
      cases E x with
      | none => simp
      | some v =>
        cases v with
        | own j z es =>
          simp only [Option.map_some, demP]
          cases p.p j <;> simp
        | tup xs => simp [demP]
        | raw o k j z es =>
          simp only [Option.map_some, demP]
          cases (p.p j || p.q j z) <;> simp
        | old _ _ _ => simp [demP]
        | d y =>
          simp only [Option.map_some, demP]
          cases E i with
          | none =>
            simp only [Option.map_none]
            repeat' split
            all_goals simp [demP]
          | some b =>
            simp only [Option.map_some, intOf_dem]
            repeat' split
            all_goals simp [demP]
        | ptr _ _ _ => simp [demP]
        | fn _ _ => simp [demP]
        | yld _ => simp [demP]
  | slice t x lo hi mx =>
    have hx := h x (by simp [Op.operands])
    have hlo : optI E' lo = optI E lo := optI_dem fun y hy => h y (by simp [Op.operands, hy])
    have hhi : optI E' hi = optI E hi := optI_dem fun y hy => h y (by simp [Op.operands, hy])
    have hmx : optI E' mx = optI E mx := optI_dem fun y hy => h y (by simp [Op.operands, hy])
    simp only [opP]
    rw [hx, hlo, hhi, hmx]
    cases T t with
    | none => rfl
    | some ti =>
      simp only
      cases E x with
      | none => simp
      | some a =>
        simp only [Option.map_some]
        cases optI E lo with
        | none => simp
        | some l =>
          cases optI E hi with
          | none => simp
          | some h' =>
            cases optI E mx with
            | none => simp
            | some m =>
              generalize ti.kind = kk
              rcases kk with _ | _ | _ | _ | kk
              · rfl
              · rfl
              · simp only
                cases T ti.elem with
                | none => rfl
                | some te =>
                  simp only
                  rw [(sliceD_dem te.size a l h' m).1, (sliceD_dem te.size a l h' m).2]
              · cases a with
                | own j z es =>
                  simp only [demP]
                  cases p.p j <;> rfl
                | raw o k j z es =>
                  simp only [demP]
                  cases (p.p j || p.q j z) <;> rfl
                | d y =>
                  simp only [demP]
                  cases y with
                  | str s =>
                    cases m with
                    | none =>
                      simp only
                      split <;> simp [demP]
                    | some m => rfl
                  | _ => rfl
                | _ => rfl
              · rfl
  | extract x i =>
    have hx := h x (by simp [Op.operands])
    simp only [opP]
    rw [hx]
    cases E x with
    | none => rfl
    | some v =>
      cases v with
      | tup xs => simp only [Option.map_some, demP]; exact get_demPs xs i
      | own j z es =>
        simp only [Option.map_some, demP]
        cases p.p j <;> rfl
      | raw o k j z es =>
        simp only [Option.map_some, demP]
        cases (p.p j || p.q j z) <;> rfl
      | _ => simp [demP]
  | nilCheck x =>
    have hx := h x (by simp [Op.operands])
    simp only [opP]
    rw [hx]
    cases E x with
    | none => rfl
    | some v =>
      cases v with
      | d y =>
        simp only [Option.map_some, demP]
        cases y <;> simp [demP]
      | own j z es =>
        simp only [Option.map_some, demP]
        cases p.p j <;> rfl
      | raw o k j z es =>
        simp only [Option.map_some, demP]
        cases (p.p j || p.q j z) <;> rfl
      | _ => simp [demP]
  | binOp o t x y z =>
    have hx := h x (by simp [Op.operands])
    have hy := h y (by simp [Op.operands])
    simp only [opP]
    rw [hx, hy]
    cases E x with
    | none => rfl
    | some a =>
      cases E y with
      | none => rfl
      | some b =>
        simp only [Option.map_some]
        rw [opB_dem]
        cases opB (Go.binOp o t) a b with
        | some v => rfl
        | none => exact (eqA_dem (T := T) o t a b)
  | unOp o t x =>
    have hx := h x (by simp [Op.operands])
    simp only [opP]
    rw [hx]
    cases E x with
    | none => rfl
    | some a =>
      cases a with
      | d u =>
        simp only [Option.map_some, demP]
        cases u.val with
        | none => rfl
        | some v => simp only; rw [semV_dem]
      | own j z es =>
        simp only [Option.map_some, demP]
        cases p.p j <;> simp [D.val]
      | raw o k j z es =>
        simp only [Option.map_some, demP]
        cases (p.p j || p.q j z) <;> simp [D.val]
      | _ => simp [demP]
  | makeInterface t x =>
    have hx := h x (by simp [Op.operands])
    simp only [opP]
    rw [hx]
    cases T t with
    | none => rfl
    | some ti =>
      dsimp only
      cases E x with
      | none => rfl
      | some a =>
        cases a with
        | d u => simp only [Option.map_some, demP]; cases u <;> first | rfl | (dsimp only; split <;> rfl)
        | own j z es => simp only [Option.map_some, demP]; cases p.p j <;> rfl
        | raw o k j z es => simp only [Option.map_some, demP]; cases (p.p j || p.q j z) <;> rfl
        | _ => rfl
  | typeAssert x xt t ok =>
    have hx := h x (by simp [Op.operands])
    simp only [opP]
    rw [hx]
    cases T t with
    | none => rfl
    | some ti =>
      dsimp only
      cases ok with
      | false => cases E x <;> rfl
      | true =>
        cases E x with
        | none => rfl
        | some a =>
          cases a with
          | d u =>
            simp only [Option.map_some, demP]
            cases u with
            | nili => dsimp only; split <;> first | rfl | exact (zeroT_dem ti).symm
            | iface k v => dsimp only; split <;> first | rfl | (split <;> first | rfl | exact (zeroT_dem ti).symm | simp [demP, demPs])
            | _ => rfl
          | own j z es => simp only [Option.map_some, demP]; cases p.p j <;> rfl
          | raw o k j z es => simp only [Option.map_some, demP]; cases (p.p j || p.q j z) <;> rfl
          | _ => rfl
  | convert s t x =>
    have hx := h x (by simp [Op.operands])
    simp only [opP]
    rw [hx]
    cases T s with
    | none => rfl
    | some si =>
      cases T t with
      | none => rfl
      | some ti =>
        dsimp only
        cases si.int with
        | none => cases E x <;> rfl
        | some k1 =>
          cases ti.int with
          | none => cases E x <;> rfl
          | some k2 =>
            cases E x with
            | none => rfl
            | some a =>
              cases a with
              | d u => simp only [Option.map_some, demP]; cases u <;> rfl
              | own j z es => simp only [Option.map_some, demP]; cases p.p j <;> rfl
              | raw o k j z es => simp only [Option.map_some, demP]; cases (p.p j || p.q j z) <;> rfl
              | _ => rfl
  | call c =>
    have hop : ∀ x ∈ c.args.toList, E' x = (E x).map (demP p) := fun x hx => h x (by
      simp [Op.operands, Call.operands]
      exact .inr (by simpa using hx))
    simp only [opP, lenA]
    split
    · rename_i hl
      split
      · split
        · rename_i x t ts hargs htys
          have hx := hop x (by rw [hargs]; simp)
          rw [hx]
          cases T t with
          | none => rfl
          | some ti =>
            simp only
            cases E x with
            | none => rfl
            | some a => simp only [Option.map_some]; rw [(opLen_dem ti.kind a).1, (opLen_dem ti.kind a).2]
        · rfl
      · rename_i mx _
        split
        · rename_i x y hargs
          have hx := hop x (by rw [hargs]; simp)
          have hy := hop y (by rw [hargs]; simp)
          rw [hx, hy]
          cases E x with
          | none => rfl
          | some a =>
            cases E y with
            | none => rfl
            | some b => simp only [Option.map_some]; rw [(extA_dem mx a b).1, (extA_dem mx a b).2]
        · rfl
    · rfl
  | _ => rfl
end
end Go.Abs
