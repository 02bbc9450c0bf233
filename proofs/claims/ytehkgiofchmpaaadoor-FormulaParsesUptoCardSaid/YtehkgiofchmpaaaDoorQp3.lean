/- What the claim rests on, part 3. -/
import Derived.Test.YtehkgiofchmpaaaDoorQp2
import Derived.OrdersIn
namespace Go.Abs
open Go
set_option linter.unusedVariables false
set_option linter.unusedSimpArgs false
set_option linter.unnecessarySimpa false
structure Pz where
 p : Id → Bool
 q : Id → Nat → Bool
 f : Id → List (List D) → List (List D)
 len : ∀ i es, (f i es).length = es.length
 g : Id → Id
instance : CoeFun Pz (fun _ => Id → Bool) := ⟨Pz.p⟩
def Pz.of (p : Id → Bool) : Pz := ⟨p, fun _ _ => false, fun _ es => es, fun _ _ => rfl, fun j => j⟩
def Pz.comp (p q : Pz) : Pz := ⟨fun j => q.p j || p.p (q.g j), fun j z => q.q j z || p.q (q.g j) z, fun j es => p.f (q.g j) (q.f j es), fun j es => by rw [p.len, q.len], fun j => p.g (q.g j)⟩
mutual
 def demP (p : Pz) : AV → AV
  | .own j sz es => match p.p j with
   | true => .d (.sl sz es)
   | false => .own (p.g j) sz es
  | .raw o k j sz es => match p.p j || p.q j sz with
   | true => .old o sz es.length
   | false => .raw o k (p.g j) sz (p.f j es)
  | .tup xs => .tup (demPs p xs)
  | a => a
 def demPs (p : Pz) : List AV → List AV
  | [] => []
  | a :: as => demP p a :: demPs p as
end
mutual
 theorem dem_eq (i : Id) : ∀ a, dem i a = demP (Pz.of fun j => decide (i = j)) a
  | .d _ => by simp [dem, demP]
  | .own j sz es => by
   simp only [dem, demP]
   by_cases h : i = j <;> simp [h, Pz.of]
  | .ptr _ _ _ => by simp [dem, demP]
  | .fn _ _ => by simp [dem, demP]
  | .tup xs => by simp only [dem, demP]; rw [dems_eq i xs]
  | .yld _ => by simp [dem, demP]
  | .old _ _ _ => by simp [dem, demP]
  | .raw o k j sz es => by
   simp only [dem, demP]
   by_cases h : i = j <;> simp [h, Pz.of]
 theorem dems_eq (i : Id) : ∀ as, dems i as = demPs (Pz.of fun j => decide (i = j)) as
  | [] => by simp [dems, demPs]
  | a :: as => by simp only [dems, demPs]; rw [dem_eq i a, dems_eq i as]
end
def isBoxB : Id → Bool
 | .box _ _ _ => true
 | _ => false
mutual
 theorem demBoxes_eq : ∀ a, demBoxes a = demP (Pz.of isBoxB) a
  | .d _ => by simp [demBoxes, demP]
  | .own j sz es => by cases j <;> simp [demBoxes, demP, isBoxB, Pz.of]
  | .ptr _ _ _ => by simp [demBoxes, demP]
  | .fn _ _ => by simp [demBoxes, demP]
  | .tup xs => by simp only [demBoxes, demP]; rw [demBoxess_eq xs]
  | .yld _ => by simp [demBoxes, demP]
  | .old _ _ _ => by simp [demBoxes, demP]
  | .raw o k j sz es => by cases j <;> simp [demBoxes, demP, isBoxB, Pz.of]
 theorem demBoxess_eq : ∀ as, demBoxess as = demPs (Pz.of isBoxB) as
  | [] => by simp [demBoxess, demPs]
  | a :: as => by simp only [demBoxess, demPs]; rw [demBoxes_eq a, demBoxess_eq as]
end
mutual
 theorem demF_eq (f : Nat → Bool) : ∀ a, demF f a = demP (Pz.of (boxAt f)) a
  | .d _ => by simp [demF, demP]
  | .own j sz es => by
   cases j with
   | box d _ _ => simp only [demF, demP, boxAt, Pz.of]; cases f d <;> rfl
   | _ => simp [demF, demP, boxAt, Pz.of]
  | .ptr _ _ _ => by simp [demF, demP]
  | .fn _ _ => by simp [demF, demP]
  | .tup xs => by simp only [demF, demP]; rw [demFs_eq f xs]
  | .yld _ => by simp [demF, demP]
  | .old _ _ _ => by simp [demF, demP]
  | .raw o k j sz es => by
   cases j with
   | box d _ _ => simp only [demF, demP, boxAt, Pz.of]; cases f d <;> rfl
   | _ => simp [demF, demP, boxAt, Pz.of]
 theorem demFs_eq (f : Nat → Bool) : ∀ as, demFs f as = demPs (Pz.of (boxAt f)) as
  | [] => by simp [demFs, demPs]
  | a :: as => by simp only [demFs, demPs]; rw [demF_eq f a, demFs_eq f as]
end
mutual
 theorem demP_comp (p q : Pz) : ∀ a, demP p (demP q a) = demP (p.comp q) a
  | .d _ => by simp [demP]
  | .own j sz es => by
   simp only [demP, Pz.comp]
   cases q.p j with
   | true => simp [demP]
   | false => simp [demP]
  | .ptr _ _ _ => by simp [demP]
  | .fn _ _ => by simp [demP]
  | .tup xs => by simp only [demP]; rw [demPs_comp p q xs]
  | .yld _ => by simp [demP]
  | .old _ _ _ => by simp [demP]
  | .raw o k j sz es => by
   simp only [demP, Pz.comp]
   cases q.p j <;> cases q.q j sz <;> cases hp : p.p (q.g j) <;> cases hq : p.q (q.g j) sz <;> simp [demP, hp, hq, q.len]
 theorem demPs_comp (p q : Pz) : ∀ as, demPs p (demPs q as) = demPs (p.comp q) as
  | [] => by simp [demPs]
  | a :: as => by simp only [demPs]; rw [demP_comp p q a, demPs_comp p q as]
end
mutual
 theorem demP_none : ∀ a, demP (Pz.of fun _ => false) a = a
  | .d _ => by simp [demP]
  | .own j sz es => by simp [demP, Pz.of]
  | .ptr _ _ _ => by simp [demP]
  | .fn _ _ => by simp [demP]
  | .tup xs => by simp only [demP]; rw [demPs_none xs]
  | .yld _ => by simp [demP]
  | .old _ _ _ => by simp [demP]
  | .raw o k j sz es => by simp [demP, Pz.of]
 theorem demPs_none : ∀ as, demPs (Pz.of fun _ => false) as = as
  | [] => by simp [demPs]
  | a :: as => by simp only [demPs]; rw [demP_none a, demPs_none as]
end
def Pz.set (i : Id) (n sz : Nat) (c : List D) : Pz := ⟨fun _ => false, fun j z => decide (i = j) && !(Nat.beq z sz), fun j es => if i = j then es.set n c else es, fun j es => by split <;> simp, fun j => j⟩
mutual
 theorem setRaw_eq (i : Id) (n sz : Nat) (c : List D) : ∀ a, setRaw i n sz c a = demP (Pz.set i n sz c) a
  | .d _ => by simp [setRaw, demP]
  | .own j z es => by simp [setRaw, demP, Pz.set]
  | .ptr _ _ _ => by simp [setRaw, demP]
  | .fn _ _ => by simp [setRaw, demP]
  | .tup xs => by simp only [setRaw, demP]; rw [setRaws_eq i n sz c xs]
  | .yld _ => by simp [setRaw, demP]
  | .old _ _ _ => by simp [setRaw, demP]
  | .raw o k j z es => by
   simp only [setRaw, demP, Pz.set]
   by_cases h : i = j
   ·cases hz : Nat.beq z sz <;> simp [h]
   ·simp [h]
 theorem setRaws_eq (i : Id) (n sz : Nat) (c : List D) : ∀ as, setRaws i n sz c as = demPs (Pz.set i n sz c) as
  | [] => by simp [setRaws, demPs]
  | a :: as => by simp only [setRaws, demPs]; rw [setRaw_eq i n sz c a, setRaws_eq i n sz c as]
end
def Pz.ren (i nm : Id) : Pz := ⟨fun _ => false, fun _ _ => false, fun _ es => es, fun _ _ => rfl, fun j => if i = j then nm else j⟩
mutual
 theorem renA_eq (i nm : Id) : ∀ a, renA i nm a = demP (Pz.ren i nm) a
  | .d _ => by simp [renA, demP]
  | .own j z es => by simp [renA, demP, Pz.ren]
  | .ptr _ _ _ => by simp [renA, demP]
  | .fn _ _ => by simp [renA, demP]
  | .tup xs => by simp only [renA, demP]; rw [renAs_eq i nm xs]
  | .yld _ => by simp [renA, demP]
  | .old _ _ _ => by simp [renA, demP]
  | .raw o k j z es => by simp [renA, demP, Pz.ren]
 theorem renAs_eq (i nm : Id) : ∀ as, renAs i nm as = demPs (Pz.ren i nm) as
  | [] => by simp [renAs, demPs]
  | a :: as => by simp only [renAs, demPs]; rw [renA_eq i nm a, renAs_eq i nm as]
end
def Dem (φ : AV → AV) : Prop := ∃ p, φ = demP p
theorem Dem.id : Dem (fun a => a) := ⟨Pz.of fun _ => false, funext fun a => (demP_none a).symm⟩
theorem Dem.boxes : Dem demBoxes := ⟨_, funext demBoxes_eq⟩
theorem Dem.demF (f : Nat → Bool) : Dem (Abs.demF f) := ⟨_, funext (demF_eq f)⟩
section
variable {p : Pz}
theorem data_dem : ∀ a : AV, (demP p a).data = a.data
 | .d _ => by simp [demP]
 | .own j sz es => by simp only [demP]; cases p.p j <;> simp [AV.data]
 | .ptr _ _ _ => by simp [demP]
 | .fn _ _ => by simp [demP]
 | .tup xs => by simp [demP, AV.data]
 | .yld _ => by simp [demP]
 | .old _ _ _ => by simp [demP]
 | .raw o k j z es => by simp only [demP]; cases (p.p j || p.q j z) <;> simp [AV.data]
theorem row_dem (sz : Nat) : ∀ a : AV, AV.row sz (demP p a) = AV.row sz a
 | .d _ => by simp [demP]
 | .own j z es => by simp only [demP]; cases p.p j <;> simp [AV.row]
 | .ptr _ _ _ => by simp [demP]
 | .fn _ _ => by simp [demP]
 | .tup xs => by simp [demP, AV.row]
 | .yld _ => by simp [demP]
 | .old _ _ _ => by simp [demP]
 | .raw o k j z es => by simp only [demP]; cases (p.p j || p.q j z) <;> simp [AV.row]
theorem elems_dem : ∀ a : AV, (demP p a).elems = a.elems
 | .d _ => by simp [demP]
 | .own j z es => by simp only [demP]; cases p.p j <;> simp [AV.elems]
 | .ptr _ _ _ => by simp [demP]
 | .fn _ _ => by simp [demP]
 | .tup xs => by simp [demP, AV.elems]
 | .yld _ => by simp [demP]
 | .old _ _ _ => by simp [demP]
 | .raw o k j z es => by simp only [demP]; cases (p.p j || p.q j z) <;> simp [AV.elems]
theorem intOf_dem : ∀ a : AV, intOf (demP p a) = intOf a
 | .d _ => by simp [demP]
 | .own j z es => by simp only [demP]; cases p.p j <;> simp [intOf]
 | .ptr _ _ _ => by simp [demP]
 | .fn _ _ => by simp [demP]
 | .tup xs => by simp [demP, intOf]
 | .yld _ => by simp [demP]
 | .old _ _ _ => by simp [demP]
 | .raw o k j z es => by simp only [demP]; cases (p.p j || p.q j z) <;> simp [intOf]
theorem cv_dem {v : Value} {a : AV} (h : cv v = some a) : demP p a = a := by
 obtain ⟨x, rfl⟩ := cv_d h
 simp [demP]
theorem ev_dem {tm tm' : Nat → Option AV} {x : Operand} (h : ∀ t, x = .tmp t → tm' t = (tm t).map (demP p)) : ev tm' x = (ev tm x).map (demP p) := by
 cases x with
 | tmp t => exact h t rfl
 | const v =>
  simp only [ev]
  cases hv : cv v with
  | none => rfl
  | some a => simp [cv_dem hv]
 | func f => simp [ev, demP]
 | global g => rfl
variable {T : Nat → Option TI}
theorem buildCells_dem {E E' : Operand → Option AV} {fields : List (Nat × Nat)} : ∀ {parts : List (Nat × Operand)} {cs : List D}, (∀ q ∈ parts, E' q.2 = (E q.2).map (demP p)) → buildCells fields E' parts cs = buildCells fields E parts cs
 | [], cs, _ => rfl
 | (i, x) :: rest, cs, h => by
  simp only [buildCells]
  rw [h (i, x) (by simp)]
  cases E x with
  | none => rfl
  | some a =>
   simp only [Option.map_some, data_dem]
   cases a.data with
   | none => rfl
   | some v =>
    simp only
    cases fields[i]? with
    | none => rfl
    | some os =>
     obtain ⟨off, size⟩ := os
     simp only
     split
     ·exact buildCells_dem (fun q hq => h q (by simp [hq]))
     ·rfl
theorem partCells_dem {E E' : Operand → Option AV} {sz : Nat} : ∀ {parts : List (Nat × Operand)} {es : List (List D)}, (∀ q ∈ parts, E' q.2 = (E q.2).map (demP p)) → partCells sz E' parts es = partCells sz E parts es
 | [], es, _ => rfl
 | (i, x) :: rest, es, h => by
  simp only [partCells]
  rw [h (i, x) (by simp)]
  cases E x with
  | none => rfl
  | some a =>
   simp only [Option.map_some, data_dem]
   cases a.data with
   | none => rfl
   | some v =>
    simp only
    split
    ·exact partCells_dem (fun q hq => h q (by simp [hq]))
    ·rfl
theorem sliceD_dem (sz : Nat) (a : AV) (lo hi mx : Option Int) : sliceD sz (demP p a) lo hi mx = sliceD sz a lo hi mx ∧ (sliceD sz a lo hi mx).map (demP p) = sliceD sz a lo hi mx := by
 refine ⟨?_, ?_⟩
 ·have hr := row_dem (p := p) sz a
  cases a with
  | own j z es =>
   simp only [demP] at hr ⊢
   cases hp : p.p j with
   | true =>
    rw [hp] at hr
    simp only at hr ⊢
    unfold sliceD
    split
    ·rfl
    ·simp only [hr]
   | false => rfl
  | tup xs => simp only [demP, sliceD, AV.row]
  | raw o k j z es => simp only [demP]; cases (p.p j || p.q j z) <;> simp [sliceD, AV.row]
  | _ => simp [demP]
 ·unfold sliceD
  repeat' split
  all_goals simp [demP]
theorem zeroT_dem (ti : TI) : (zeroT ti).map (demP p) = zeroT ti := by
 unfold zeroT
 cases ti.agg with
 | true => simp [demP, demPs]
 | false =>
  dsimp only
  split <;> simp [demP, demPs]
theorem extA_dem (mx : Bool) (a b : AV) : extA mx (demP p a) (demP p b) = extA mx a b ∧ (extA mx a b).map (demP p) = extA mx a b := by
 constructor
 ·cases a with
  | d x =>
   cases b with
   | own j z es => simp only [demP]; cases p.p j <;> cases x <;> rfl
   | raw o k j z es => simp only [demP]; cases (p.p j || p.q j z) <;> cases x <;> rfl
   | d y => rfl
   | _ => cases x <;> rfl
  | own j z es => simp only [demP]; cases p.p j <;> rfl
  | raw o k j z es => simp only [demP]; cases (p.p j || p.q j z) <;> rfl
  | _ => rfl
 ·unfold extA
  split <;> rfl
theorem opLen_dem (k : Nat) (a : AV) : opLen k (demP p a) = opLen k a ∧ (opLen k a).map (demP p) = opLen k a := by
 refine ⟨?_, ?_⟩
 ·unfold opLen
  split
  ·rw [elems_dem]
  ·cases a with
   | own j z es => simp only [demP]; cases p.p j <;> simp
   | raw o k j z es => simp only [demP]; cases (p.p j || p.q j z) <;> simp
   | tup xs => simp [demP]
   | _ => simp [demP]
  ·rfl
 ·unfold opLen
  repeat' split
  all_goals simp [demP]
theorem optI_dem {E E' : Operand → Option AV} {x : Option Operand} (h : ∀ y, x = some y → E' y = (E y).map (demP p)) : optI E' x = optI E x := by
 cases x with
 | none => rfl
 | some y =>
  simp only [optI]
  rw [h y rfl]
  cases E y with
  | none => rfl
  | some a => simp only [Option.map_some, intOf_dem]
theorem semV_dem (s : Sem Value) : (semV s).map (demP p) = semV s := by
 cases h : semV s with
 | none => rfl
 | some a =>
  obtain ⟨x, rfl⟩ := semV_d h
  simp [demP]
theorem get_demPs : ∀ (xs : List AV) (i : Nat), (demPs p xs)[i]? = (xs[i]?).map (demP p)
 | [], i => by simp [demPs]
 | x :: xs, i => by
  cases i with
  | zero => simp [demPs]
  | succ i => simpa [demPs] using get_demPs xs i
def valA : AV → Option Value
 | .d x => x.val
 | _ => none
theorem valA_dem : ∀ a : AV, valA (demP p a) = valA a
 | .d _ => by simp [demP]
 | .own j z es => by simp only [demP]; cases p.p j <;> rfl
 | .ptr _ _ _ => by simp [demP]
 | .fn _ _ => by simp [demP]
 | .tup xs => by simp [demP, valA]
 | .yld _ => by simp [demP]
 | .old _ _ _ => by simp [demP]
 | .raw o k j z es => by simp only [demP]; cases (p.p j || p.q j z) <;> rfl
theorem opB_eq (f : Value → Value → Sem Value) (a b : AV) : opB f a b = match valA a, valA b with
  | some u, some v => semV (f u v)
  | _, _ => none := by
 cases a with
 | d x =>
  cases b with
  | d y => rfl
  | _ => simp only [opB, valA]; cases x.val <;> rfl
 | _ => rfl
theorem opB_dem (f : Value → Value → Sem Value) (a b : AV) : opB f (demP p a) (demP p b) = (opB f a b).map (demP p) := by
 rw [opB_eq, opB_eq, valA_dem, valA_dem]
 cases valA a with
 | none => rfl
 | some u =>
  cases valA b with
  | none => rfl
  | some v => simp only; rw [semV_dem]
theorem nilQ_dem (k : Nat) (a : AV) : nilQ k (demP p a) = nilQ k a := by
 have he := elems_dem (p := p) a
 cases a with
 | own j z es =>
  simp only [demP] at he ⊢
  cases hp : p.p j with
  | true =>
   simp only
   unfold nilQ
   split <;> rfl
  | false => rfl
 | raw o k j z es =>
  simp only [demP] at he ⊢
  cases hp : (p.p j || p.q j z) with
  | true =>
   simp only
   unfold nilQ
   split <;> rfl
  | false => rfl
 | tup xs => simp only [demP]; unfold nilQ; split <;> rfl
 | _ => simp [demP]
theorem eqV_dem {T : Nat → Option TI} (t : Nat) (a b : AV) : eqV T t (demP p a) (demP p b) = eqV T t a b := by
 unfold eqV
 cases T t with
 | none => rfl
 | some ti =>
  simp only
  split
  ·cases a with
   | d x =>
    cases b with
    | d y => simp [demP]
    | own j z es => (simp only [demP]) <;> (cases p.p j <;> cases x <;> rfl)
    | raw o k j z es => (simp only [demP]) <;> (cases (p.p j || p.q j z) <;> cases x <;> rfl)
    | tup xs => (simp only [demP]) <;> (cases x <;> rfl)
    | _ => simp [demP]
   | own j z es => simp only [demP]; cases p.p j <;> rfl
   | raw o k j z es => simp only [demP]; cases (p.p j || p.q j z) <;> rfl
   | tup xs => simp [demP]
   | _ => simp [demP]
  ·rw [nilQ_dem, nilQ_dem]
theorem eqA_dem {T : Nat → Option TI} (op : BinOp) (t : Nat) (a b : AV) : eqA T op t (demP p a) (demP p b) = (eqA T op t a b).map (demP p) := by
 unfold eqA
 rw [eqV_dem]
 cases eqV T t a b with
 | none => rfl
 | some r => cases op <;> simp [demP]
theorem refs_dem (sz : Nat) (n : Int) (a : AV) :
    (match AV.refs sz (demP p a) with
      | some es => if 0 ≤ n then match es[n.toNat]? with
          | some e => some (AV.elem n.toNat e (demP p a))
          | none => none
        else none
      | none => none) = (match AV.refs sz a with
      | some es => if 0 ≤ n then match es[n.toNat]? with
          | some e => some (AV.elem n.toNat e a)
          | none => none
        else none
      | none => none).map (demP p) := by
  have dflt : ∀ (a : AV), demP p a = a → (∀ e, demP p (AV.elem n.toNat e a) = AV.elem n.toNat e a) → (match AV.refs sz a with
      | some es => if 0 ≤ n then match es[n.toNat]? with
          | some e => some (AV.elem n.toNat e a)
          | none => none
        else none
      | none => none) = (match AV.refs sz a with
      | some es => if 0 ≤ n then match es[n.toNat]? with
          | some e => some (AV.elem n.toNat e a)
          | none => none
        else none
      | none => none).map (demP p) := by
    intro a _ h
    repeat' split
    all_goals simp [h]
  cases a with
  | own j z es =>
    have hr := row_dem (p := p) sz (.own j z es)
    simp only [demP] at hr ⊢
    cases hp : p.p j with
    | true =>
      rw [hp] at hr
      simp only at hr ⊢
      simp only [AV.refs, AV.elem, hr]
      repeat' split
      all_goals simp [demP]
    | false =>
      have e0 : AV.row sz (.own (p.g j) z es) = AV.row sz (.own j z es) := rfl
      simp only [AV.refs, AV.elem, e0]
      repeat' split
      all_goals simp [demP]
  | raw o k j z es =>
    simp only [demP]
    cases hp : (p.p j || p.q j z) with
    | true =>
      cases o with
      | none =>
        simp only [AV.refs, AV.elem]
        cases Nat.beq z sz with
        | false => rfl
        | true =>
          simp only [if_true]
          by_cases h0 : 0 ≤ n
          · simp only [if_pos h0]
            by_cases hlt : n.toNat < es.length
            · rw [List.getElem?_eq_getElem (by simpa using hlt), List.getElem?_eq_getElem hlt]
              simp [demP, hp]
            · rw [List.getElem?_eq_none (by simpa using hlt), List.getElem?_eq_none (by omega)]
              rfl
          · simp only [if_neg h0]; rfl
      | some m => simp [AV.refs, AV.row]
    | false =>
      cases o with
      | none =>
        simp only [AV.refs, AV.elem]
        cases Nat.beq z sz with
        | false => rfl
        | true =>
          simp only [if_true]
          by_cases h0 : 0 ≤ n
          · simp only [if_pos h0]
            have hlen := p.len j es
            by_cases hlt : n.toNat < es.length
            · rw [List.getElem?_eq_getElem (by omega), List.getElem?_eq_getElem hlt]
              simp [demP, hp]
            · rw [List.getElem?_eq_none (by omega), List.getElem?_eq_none (by omega)]
              rfl
          · simp only [if_neg h0]; rfl
      | some m => simp [AV.refs, AV.row]
  | old o z m =>
    simp only [demP]
    cases o <;> (simp only [AV.refs, AV.elem]; repeat' split) <;> simp [demP]
  | tup xs => simp [demP, AV.refs, AV.row]
  | _ => simp only [demP]; simp only [AV.refs, AV.elem]; repeat' split
         all_goals simp [demP]
theorem opP_dem {E E' : Operand → Option AV} {op : Op} (h : ∀ x ∈ op.operands.toList, E' x = (E x).map (demP p)) : opP T E' op = (opP T E op).map (demP p) := by
 cases op with
 | move x => exact h x (by simp [Op.operands])
 | assign x => exact h x (by simp [Op.operands])
 | pick c a b =>
  have hc := h c (by simp [Op.operands])
  have ha := h a (by simp [Op.operands])
  have hb := h b (by simp [Op.operands])
  simp only [opP]
  rw [hc]
  cases E c with
  | none => rfl
  | some v =>
   cases v with
   | d x =>
    simp only [Option.map_some, demP]
    cases x with
    | bool b => cases b <;> simp only [ha, hb]
    | _ => rfl
   | own j z es => simp only [Option.map_some, demP]; cases p.p j <;> rfl
   | raw o k j z es => simp only [Option.map_some, demP]; cases (p.p j || p.q j z) <;> rfl
   | _ => simp [demP]
 | build t parts =>
  simp only [opP]
  have hb : ∀ q ∈ parts.toList, E' q.2 = (E q.2).map (demP p) := fun q hq => h q.2 (by simp [Op.operands]; exact ⟨q.1, by simpa using hq⟩)
  cases T t with
  | none => rfl
  | some ti =>
   simp only
   split
   ·rw [buildCells_dem hb]
    cases buildCells ti.fields E parts.toList ti.zero <;> simp [demP]
   ·rfl
 | fieldAddr t x f =>
  have hx := h x (by simp [Op.operands])
  simp only [opP]
  rw [hx]
  cases T t with
  | none => rfl
  | some ti =>
   simp only
   cases E x with
   | none => simp
   | some v =>
    cases v with
    | own j z es =>
     simp only [Option.map_some, demP]
     cases p.p j <;> simp
    | tup xs => simp [demP]
    | raw o k j z es =>
     simp only [Option.map_some, demP]
     cases (p.p j || p.q j z) <;> simp
    | old _ _ _ => simp [demP]
    | d y =>
     simp only [Option.map_some, demP]
     repeat' split
     all_goals simp [demP]
    | ptr _ _ _ =>
     simp only [Option.map_some, demP]
     repeat' split
     all_goals simp [demP]
    | fn _ _ => simp [demP]
    | yld _ => simp [demP]
 | indexAddr t x i =>
  have hx := h x (by simp [Op.operands])
  have hi := h i (by simp [Op.operands])
  simp only [opP]
  rw [hx, hi]
  cases T t with
  | none => rfl
  | some ti =>
   simp only
   split
   ·cases T ti.elem with
    | none => rfl
    | some te =>
     simp only
     cases E x with
     | none => rfl
     | some a =>
      simp only [Option.map_some]
      cases hE : E i with
      | none =>
       simp only [Option.map_none]
       cases AV.refs te.size (demP p a) <;> cases AV.refs te.size a <;> rfl
      | some b =>
       simp only [Option.map_some, intOf_dem]
       cases intOf b with
       | none => cases AV.refs te.size (demP p a) <;> cases AV.refs te.size a <;> rfl
       | some n =>
        simp only
        exact refs_dem te.size n a
   ·rfl
 | index t x i =>
  have hx := h x (by simp [Op.operands])
  have hi := h i (by simp [Op.operands])
  simp only [opP]
  rw [hx, hi]
  cases T t with
  | none => rfl
  | some ti =>
   simp only
   cases E x with
   | none => simp
   | some v =>
    cases v with
    | own j z es =>
     simp only [Option.map_some, demP]
     cases p.p j <;> simp
    | tup xs => simp [demP]
    | raw o k j z es =>
     simp only [Option.map_some, demP]
     cases (p.p j || p.q j z) <;> simp
    | old _ _ _ => simp [demP]
    | d y =>
     simp only [Option.map_some, demP]
     cases E i with
     | none =>
      simp only [Option.map_none]
      repeat' split
      all_goals simp [demP]
     | some b =>
      simp only [Option.map_some, intOf_dem]
      repeat' split
      all_goals simp [demP]
    | ptr _ _ _ => simp [demP]
    | fn _ _ => simp [demP]
    | yld _ => simp [demP]
 | slice t x lo hi mx =>
  have hx := h x (by simp [Op.operands])
  have hlo : optI E' lo = optI E lo := optI_dem fun y hy => h y (by simp [Op.operands, hy])
  have hhi : optI E' hi = optI E hi := optI_dem fun y hy => h y (by simp [Op.operands, hy])
  have hmx : optI E' mx = optI E mx := optI_dem fun y hy => h y (by simp [Op.operands, hy])
  simp only [opP]
  rw [hx, hlo, hhi, hmx]
  cases T t with
  | none => rfl
  | some ti =>
   simp only
   cases E x with
   | none => simp
   | some a =>
    simp only [Option.map_some]
    cases optI E lo with
    | none => simp
    | some l =>
     cases optI E hi with
     | none => simp
     | some h' =>
      cases optI E mx with
      | none => simp
      | some m =>
       generalize ti.kind = kk
       rcases kk with _ | _ | _ | _ | kk
       ·rfl
       ·rfl
       ·simp only
        cases T ti.elem with
        | none => rfl
        | some te =>
         simp only
         rw [(sliceD_dem te.size a l h' m).1, (sliceD_dem te.size a l h' m).2]
       ·cases a with
        | own j z es =>
         simp only [demP]
         cases p.p j <;> rfl
        | raw o k j z es =>
         simp only [demP]
         cases (p.p j || p.q j z) <;> rfl
        | d y =>
         simp only [demP]
         cases y with
         | str s =>
          cases m with
          | none =>
           simp only
           split <;> simp [demP]
          | some m => rfl
         | _ => rfl
        | _ => rfl
       ·rfl
 | extract x i =>
  have hx := h x (by simp [Op.operands])
  simp only [opP]
  rw [hx]
  cases E x with
  | none => rfl
  | some v =>
   cases v with
   | tup xs => simp only [Option.map_some, demP]; exact get_demPs xs i
   | own j z es =>
    simp only [Option.map_some, demP]
    cases p.p j <;> rfl
   | raw o k j z es =>
    simp only [Option.map_some, demP]
    cases (p.p j || p.q j z) <;> rfl
   | _ => simp [demP]
 | nilCheck x =>
  have hx := h x (by simp [Op.operands])
  simp only [opP]
  rw [hx]
  cases E x with
  | none => rfl
  | some v =>
   cases v with
   | d y =>
    simp only [Option.map_some, demP]
    cases y <;> simp [demP]
   | own j z es =>
    simp only [Option.map_some, demP]
    cases p.p j <;> rfl
   | raw o k j z es =>
    simp only [Option.map_some, demP]
    cases (p.p j || p.q j z) <;> rfl
   | _ => simp [demP]
 | binOp o t x y z =>
  have hx := h x (by simp [Op.operands])
  have hy := h y (by simp [Op.operands])
  simp only [opP]
  rw [hx, hy]
  cases E x with
  | none => rfl
  | some a =>
   cases E y with
   | none => rfl
   | some b =>
    simp only [Option.map_some]
    rw [opB_dem]
    cases opB (Go.binOp o t) a b with
    | some v => rfl
    | none => exact (eqA_dem (T := T) o t a b)
 | unOp o t x =>
  have hx := h x (by simp [Op.operands])
  simp only [opP]
  rw [hx]
  cases E x with
  | none => rfl
  | some a =>
   cases a with
   | d u =>
    simp only [Option.map_some, demP]
    cases u.val with
    | none => rfl
    | some v => simp only; rw [semV_dem]
   | own j z es =>
    simp only [Option.map_some, demP]
    cases p.p j <;> simp [D.val]
   | raw o k j z es =>
    simp only [Option.map_some, demP]
    cases (p.p j || p.q j z) <;> simp [D.val]
   | _ => simp [demP]
 | makeInterface t x =>
  have hx := h x (by simp [Op.operands])
  simp only [opP]
  rw [hx]
  cases T t with
  | none => rfl
  | some ti =>
   dsimp only
   cases E x with
   | none => rfl
   | some a =>
    cases a with
    | d u => simp only [Option.map_some, demP]; cases u <;> first | rfl | (dsimp only; split <;> rfl)
    | own j z es => simp only [Option.map_some, demP]; cases p.p j <;> rfl
    | raw o k j z es => simp only [Option.map_some, demP]; cases (p.p j || p.q j z) <;> rfl
    | _ => rfl
 | typeAssert x xt t ok =>
  have hx := h x (by simp [Op.operands])
  simp only [opP]
  rw [hx]
  cases T t with
  | none => rfl
  | some ti =>
   dsimp only
   cases ok with
   | false => cases E x <;> rfl
   | true =>
    cases E x with
    | none => rfl
    | some a =>
     cases a with
     | d u =>
      simp only [Option.map_some, demP]
      cases u with
      | nili => dsimp only; split <;> first | rfl | exact (zeroT_dem ti).symm
      | iface k v => dsimp only; split <;> first | rfl | (split <;> first | rfl | exact (zeroT_dem ti).symm | simp [demP, demPs])
      | _ => rfl
     | own j z es => simp only [Option.map_some, demP]; cases p.p j <;> rfl
     | raw o k j z es => simp only [Option.map_some, demP]; cases (p.p j || p.q j z) <;> rfl
     | _ => rfl
 | convert s t x =>
  have hx := h x (by simp [Op.operands])
  simp only [opP]
  rw [hx]
  cases T s with
  | none => rfl
  | some si =>
   cases T t with
   | none => rfl
   | some ti =>
    dsimp only
    cases si.int with
    | none => cases E x <;> rfl
    | some k1 =>
     cases ti.int with
     | none => cases E x <;> rfl
     | some k2 =>
      cases E x with
      | none => rfl
      | some a =>
       cases a with
       | d u => simp only [Option.map_some, demP]; cases u <;> rfl
       | own j z es => simp only [Option.map_some, demP]; cases p.p j <;> rfl
       | raw o k j z es => simp only [Option.map_some, demP]; cases (p.p j || p.q j z) <;> rfl
       | _ => rfl
 | call c =>
  have hop : ∀ x ∈ c.args.toList, E' x = (E x).map (demP p) := fun x hx => h x (by
   simp [Op.operands, Call.operands]
   exact .inr (by simpa using hx))
  simp only [opP, lenA]
  split
  ·rename_i hl
   split
   ·split
    ·rename_i x t ts hargs htys
     have hx := hop x (by rw [hargs]; simp)
     rw [hx]
     cases T t with
     | none => rfl
     | some ti =>
      simp only
      cases E x with
      | none => rfl
      | some a => simp only [Option.map_some]; rw [(opLen_dem ti.kind a).1, (opLen_dem ti.kind a).2]
    ·rfl
   ·rename_i mx _
    split
    ·rename_i x y hargs
     have hx := hop x (by rw [hargs]; simp)
     have hy := hop y (by rw [hargs]; simp)
     rw [hx, hy]
     cases E x with
     | none => rfl
     | some a =>
      cases E y with
      | none => rfl
      | some b => simp only [Option.map_some]; rw [(extA_dem mx a b).1, (extA_dem mx a b).2]
    ·rfl
  ·rfl
 | _ => rfl
end
end Go.Abs
namespace Go.Abs
open Go
set_option linter.unusedVariables false
set_option linter.unusedSimpArgs false
set_option linter.unnecessarySimpa false
def sU (s : St) (d : Nat) (v : AV) : St := { tm := upd s.tm d (some v), fr := s.fr, g := s.g }
theorem upd_comm {tm : Nat → Option AV} {a b : Nat} {x y : Option AV} (h : a ≠ b) : upd (upd tm a x) b y = upd (upd tm b y) a x := by
 funext t
 unfold upd
 by_cases h1 : t = a
 ·subst h1
  rw [if_neg (by simpa using h), if_pos (by simp), if_pos (by simp)]
 ·by_cases h2 : t = b
  ·subst h2
   rw [if_pos (by simp), if_neg (by simpa using h1), if_pos (by simp)]
  ·rw [if_neg (by simpa using h2), if_neg (by simpa using h1), if_neg (by simpa using h1), if_neg (by simpa using h2)]
theorem upd_ne {tm : Nat → Option AV} {d t : Nat} {v : Option AV} (h : t ≠ d) : upd tm d v t = tm t := by
 unfold upd; rw [if_neg (by simpa using h)]
theorem ev_upd {tm : Nat → Option AV} {d : Nat} {v : Option AV} {x : Operand} (h : x ≠ .tmp d) : ev (upd tm d v) x = ev tm x := by
 cases x with
 | tmp t =>
  simp only [ev]
  exact upd_ne (fun e => h (by rw [e]))
 | _ => rfl
theorem evs_upd {tm : Nat → Option AV} {d : Nat} {v : Option AV} : ∀ {xs : List Operand}, (∀ x ∈ xs, x ≠ .tmp d) → evs (upd tm d v) xs = evs tm xs
 | [], _ => rfl
 | x :: xs, h => by
  simp only [evs]
  rw [ev_upd (h x (by simp)), evs_upd fun y hy => h y (by simp [hy])]
theorem opP_congr {T : Nat → Option TI} {E E' : Operand → Option AV} {op : Op} (h : ∀ x ∈ op.operands.toList, E' x = E x) : opP T E' op = opP T E op := by
 have := opP_dem (T := T) (p := Pz.of fun _ => false) (E := E) (E' := E') (op := op) (fun x hx => by
  rw [h x hx]
  cases E x with
  | none => rfl
  | some a => simp [demP_none])
 rw [this]
 cases opP T E op with
 | none => rfl
 | some a => simp [demP_none]
theorem demSt_sU (i : Id) (s : St) (d : Nat) (v : AV) : demSt i (sU s d v) = sU (demSt i s) d (dem i v) := by
 unfold demSt sU
 congr 1
 funext t
 simp only [demTm, upd]
 by_cases h : Nat.beq t d = true
 ·rw [if_pos h, if_pos h]
 ·rw [if_neg h, if_neg h]
theorem renSt_sU (i nm : Id) (s : St) (d : Nat) (v : AV) : renSt i nm (sU s d v) = sU (renSt i nm s) d (renA i nm v) := by
 unfold renSt sU
 congr 1
 funext t
 simp only [renTm, upd]
 cases h : Nat.beq t d <;> simp
def doφ (nm : Id) : AV → AV → AV
 | .own i _ _, v => dem nm (dem i v)
 | .raw _ _ i _ _, v => renA i nm (dem nm v)
 | _, v => dem nm v
theorem letIn_sU (nm : Id) (a : AV) (s : St) (d : Nat) (v : AV) : letIn nm a (sU s d v) = sU (letIn nm a s) d (doφ nm a v) := by
 cases a with
 | own i z es => show demSt nm (demSt i (sU s d v)) = _; rw [demSt_sU, demSt_sU]; rfl
 | raw o k i z es => show renSt i nm (demSt nm (sU s d v)) = _; rw [demSt_sU, renSt_sU]; rfl
 | _ => exact demSt_sU _ _ _ _
theorem demTm_get (i : Id) (tm : Nat → Option AV) (t : Nat) : demTm i tm t = (tm t).map (dem i) := by
 unfold demTm; cases tm t <;> rfl
theorem renTm_get (i nm : Id) (tm : Nat → Option AV) (t : Nat) : renTm i nm tm t = (tm t).map (renA i nm) := by
 unfold renTm; cases tm t <;> rfl
theorem letIn_get (nm : Id) (a : AV) (s : St) (t : Nat) : (letIn nm a s).tm t = (s.tm t).map (doφ nm a) := by
 cases a with
 | own i sz es => show demTm nm (demTm i s.tm) t = _; rw [demTm_get, demTm_get, Option.map_map]; rfl
 | raw o k i sz es => show renTm i nm (demTm nm s.tm) t = _; rw [renTm_get, demTm_get, Option.map_map]; rfl
 | _ => exact demTm_get nm s.tm t
def DemIn (s : St) (φ : AV → AV) : Prop := ∃ p : Pz, φ = demP p ∧ ∀ i, (p.p i = true ∨ p.g i ≠ i) → IsBox i ∨ ∃ t a, s.tm t = some a ∧ ownId a = some i
theorem DemIn.all {s : St} {φ : AV → AV} (h : DemIn s φ) : Dem φ := by obtain ⟨p, h, _⟩ := h; exact ⟨p, h⟩
theorem DemIn.id (s : St) : DemIn s (fun a => a) := ⟨Pz.of fun _ => false, funext fun a => (demP_none a).symm, fun i h => by rcases h with h | h <;> simp [Pz.of] at h⟩
theorem DemIn.dem {s : St} {i : Id} (h : IsBox i ∨ ∃ t a, s.tm t = some a ∧ ownId a = some i) : DemIn s (Abs.dem i) :=
 ⟨_, funext (dem_eq i), fun j hj => by simp [Pz.of] at hj; subst hj; exact h⟩
theorem DemIn.setRaw (s : St) (i : Id) (n sz : Nat) (c : List D) : DemIn s (Abs.setRaw i n sz c) :=
 ⟨_, funext (setRaw_eq i n sz c), fun j hj => by rcases hj with hj | hj <;> simp [Pz.set] at hj⟩
theorem DemIn.ren {s : St} {i nm : Id} (h : IsBox i ∨ ∃ t a, s.tm t = some a ∧ ownId a = some i) : DemIn s (Abs.renA i nm) :=
 ⟨_, funext (renA_eq i nm), fun j hj => by
  rcases hj with hj | hj
  ·cases hj
  ·simp only [Pz.ren] at hj
   split at hj
   ·rename_i e; subst e; exact h
   ·exact absurd rfl hj⟩
theorem DemIn.comp {s : St} {φ ψ : AV → AV} (h : DemIn s φ) (k : DemIn s ψ) : DemIn s (fun a => φ (ψ a)) := by
 obtain ⟨p, rfl, h⟩ := h
 obtain ⟨q, rfl, k⟩ := k
 refine ⟨_, funext (demP_comp p q), fun i hi => ?_⟩
 simp only [Pz.comp, Bool.or_eq_true] at hi
 by_cases hg : q.g i = i
 ·rw [hg] at hi
  rcases hi with (hi | hi) | hi
  ·exact k i (.inl hi)
  ·exact h i (.inl hi)
  ·exact h i (.inr hi)
 ·exact k i (.inr hg)
theorem ev_own {tm : Nat → Option AV} {x : Operand} {a : AV} {i : Id} (h : ev tm x = some a) (ha : ownId a = some i) : ∃ t a, tm t = some a ∧ ownId a = some i := by
 cases x with
 | tmp t => exact ⟨t, a, h, ha⟩
 | const v =>
  simp only [ev] at h
  obtain ⟨x, rfl⟩ := cv_d h
  simp [ownId] at ha
 | func f => simp [ev] at h; subst h; simp [ownId] at ha
 | global g => simp [ev] at h
theorem DemIn.doφ {s : St} {nm : Id} (hn : IsBox nm) {x : Operand} {a : AV} (h : ev s.tm x = some a) : DemIn s (Abs.doφ nm a) := by
 cases a with
 | own i z es => exact (DemIn.dem (.inl hn)).comp (DemIn.dem (.inr (ev_own h rfl)))
 | raw o k i z es => exact (DemIn.ren (.inr (ev_own h rfl))).comp (DemIn.dem (.inl hn))
 | _ => exact DemIn.dem (.inl hn)
theorem ownId_dem {i j : Id} {a : AV} (h : ownId (Abs.dem i a) = some j) : ownId a = some j := by
 cases a with
 | own k z es =>
  simp only [Abs.dem] at h
  split at h
  ·simp [ownId] at h
  ·exact h
 | raw o k l z es =>
  simp only [Abs.dem] at h
  split at h
  ·simp [ownId] at h
  ·exact h
 | tup xs => simp [Abs.dem, ownId] at h
 | _ => simpa only [Abs.dem] using h
theorem DemIn.of_dem {s : St} {i : Id} {φ : AV → AV} (h : DemIn (demSt i s) φ) : DemIn s φ := by
 obtain ⟨p, rfl, h⟩ := h
 refine ⟨p, rfl, fun j hj => ?_⟩
 rcases h j hj with h | ⟨t, a, ht, ha⟩
 ·exact .inl h
 ·right
  obtain ⟨u, hu, he⟩ := demTm_some ht
  subst he
  exact ⟨t, u, hu, ownId_dem ha⟩
def UpdOk (T : Nat → Option TI) (B : Prop) (f : St → Option St) (dst : Option Nat) (s : St) (d : Nat) : Prop :=
 ∃ φ, DemIn s φ ∧ (∀ v, f (sU s d v) = (f s).map fun s1 => sU s1 d (φ v)) ∧ ∀ s1, f s = some s1 → (∀ t, dst ≠ some t → s1.tm t = (s.tm t).map φ) ∧ (B → ∀ t a, loadA T s1.g.bx t (φ a) = (loadA T s.g.bx t a).map φ)
theorem datas_dem (i : Id) : ∀ as : List AV, AV.datas (dems i as) = AV.datas as
 | [] => rfl
 | a :: as => by
  simp only [dems, AV.datas]
  rw [dem_eq, data_dem, datas_dem i as]
theorem dems_drop (i : Id) : ∀ (as : List AV) (k : Nat), (dems i as).drop k = dems i (as.drop k)
 | [], k => by simp [dems]
 | a :: as, k => by
  cases k with
  | zero => rfl
  | succ k => simpa [dems] using dems_drop i as k
theorem dems_take (i : Id) : ∀ (as : List AV) (k : Nat), (dems i as).take k = dems i (as.take k)
 | [], k => by simp [dems]
 | a :: as, k => by
  cases k with
  | zero => simp [dems]
  | succ k => simpa [dems] using dems_take i as k
theorem loadA_dem (T : Nat → Option TI) (i : Id) (bx : Nat → Nat → Option Box) (t : Nat) (a : AV) : loadA T (demBx i bx) t (dem i a) = (loadA T bx t a).map (dem i) := by
 unfold loadA
 cases T t with
 | none => rfl
 | some ti =>
  simp only
  cases a with
  | ptr d u off =>
   simp only [dem]
   unfold demBx
   cases bx d u with
   | none => rfl
   | some b =>
    simp only
    cases ti.agg with
    | true =>
     simp only
     rw [dems_drop, dems_take, datas_dem]
     cases AV.datas ((b.cells.drop off).take ti.size) with
     | none => rfl
     | some cs => simp only; split <;> simp [dem]
    | false => simp only; exact dems_get i b.cells off
  | own j sz es =>
   by_cases h : i = j
   ·simp only [dem, if_pos h]; rfl
   ·simp only [dem, if_neg h]; rfl
  | raw o k j sz es =>
   by_cases h : i = j
   ·simp only [dem, if_pos h]; rfl
   ·simp only [dem, if_neg h]; rfl
  | d x =>
   simp only [dem]
   cases x with
   | «at» cs =>
    simp only
    cases ti.agg with
    | true => simp only; split <;> simp [dem]
    | false => simp only; cases cs[0]? <;> simp [dem]
   | _ => rfl
  | tup xs => simp [dem]
  | _ => rfl
theorem datas_demF (f : Nat → Bool) : ∀ as, AV.datas (demFs f as) = AV.datas as
 | [] => rfl
 | a :: as => by
  simp only [demFs, AV.datas]
  rw [demF_eq, data_dem, datas_demF f as]
theorem demFs_drop (f : Nat → Bool) : ∀ (as : List AV) (k : Nat), (demFs f as).drop k = demFs f (as.drop k)
 | [], k => by simp [demFs]
 | a :: as, k => by
  cases k with
  | zero => rfl
  | succ k => simpa [demFs] using demFs_drop f as k
theorem demFs_take (f : Nat → Bool) : ∀ (as : List AV) (k : Nat), (demFs f as).take k = demFs f (as.take k)
 | [], k => by simp [demFs]
 | a :: as, k => by
  cases k with
  | zero => simp [demFs]
  | succ k => simpa [demFs] using demFs_take f as k
theorem loadA_demF (T : Nat → Option TI) (f : Nat → Bool) {bx bx' : Nat → Nat → Option Box} {d u off : Nat} (hb : bx' d u = mapBx (demFs f) (bx d u)) (t : Nat) : loadA T bx' t (demF f (.ptr d u off)) = (loadA T bx t (.ptr d u off)).map (demF f) := by
 simp only [demF]
 unfold loadA
 cases T t with
 | none => rfl
 | some ti =>
  simp only
  rw [hb]
  cases bx d u with
  | none => rfl
  | some b =>
   simp only [mapBx]
   cases ti.agg with
   | true =>
    simp only
    rw [demFs_drop, demFs_take, datas_demF]
    cases AV.datas ((b.cells.drop off).take ti.size) with
    | none => rfl
    | some cs => simp only; split <;> simp [demF]
   | false => simp only; exact demFs_get f b.cells off
theorem UpdOk.fail {T : Nat → Option TI} {B : Prop} {f : St → Option St} {dst : Option Nat} {s : St} {d : Nat} (h0 : f s = none) (h : ∀ v, f (sU s d v) = none) : UpdOk T B f dst s d :=
 ⟨_, DemIn.id _, fun v => by rw [h, h0]; rfl, fun s1 hs => by rw [h0] at hs; cases hs⟩
theorem loadA_id (T : Nat → Option TI) (bx : Nat → Nat → Option Box) (t : Nat) (a : AV) : loadA T bx t a = (loadA T bx t a).map (fun a => a) := by cases loadA T bx t a <;> rfl
theorem map_id' (x : Option AV) : x.map (fun a => a) = x := by cases x <;> rfl
section
variable {T : Nat → Option TI}
theorem allocA_upd {dst t : Nat} {s : St} {d : Nat} (hd : dst ≠ d) : UpdOk T False (allocA T dst t) (some dst) s d := by
 cases hT : T t with
 | none => exact UpdOk.fail (by simp [allocA, hT]) (fun v => by simp [allocA, hT])
 | some ti =>
  cases hb : s.g.bx s.g.dp dst with
  | some b => exact UpdOk.fail (by simp [allocA, hT, hb]) (fun v => by simp [allocA, hT, sU, hb])
  | none =>
   refine ⟨_, DemIn.id _, fun v => ?_, fun s1 hs => ⟨fun t' ht => ?_, fun hB => ?_⟩⟩
   ·simp only [allocA, hT, hb, sU, Option.map_some]
    rw [upd_comm hd] <;> rfl
   ·simp only [allocA, hT, hb, Option.some.injEq] at hs
    subst hs
    rw [map_id']
    exact upd_ne (fun e => ht (by rw [e]))
   ·exact hB.elim
theorem boxA_upd {dst t : Nat} {x : Operand} {s : St} {d : Nat} (hd : dst ≠ d) (hx : x ≠ .tmp d) : UpdOk T False (boxA T dst t x) (some dst) s d := by
 cases hT : T t with
 | none => exact UpdOk.fail (by simp [boxA, hT]) (fun v => by simp [boxA, hT])
 | some ti =>
  cases hb : s.g.bx s.g.dp dst with
  | some b => exact UpdOk.fail (by simp [boxA, hT, hb]) (fun v => by simp [boxA, hT, sU, hb])
  | none =>
   cases he : ev s.tm x with
   | none => exact UpdOk.fail (by simp [boxA, hT, hb, he]) (fun v => by simp [boxA, hT, sU, hb, ev_upd hx, he])
   | some a =>
    cases hc : boxCells ti (.box s.g.dp dst 0) a with
    | none => exact UpdOk.fail (by simp [boxA, hT, hb, he, hc]) (fun v => by simp [boxA, hT, sU, hb, ev_upd hx, he, hc])
    | some cs =>
     refine ⟨_, DemIn.doφ (nm := .box s.g.dp dst 0) trivial he, fun v => ?_, fun s1 hs => ⟨fun t' ht => ?_, fun hB => ?_⟩⟩
     ·have h1 : letIn (.box s.g.dp dst 0) a (sU s d v) = sU (letIn (.box s.g.dp dst 0) a s) d (doφ (.box s.g.dp dst 0) a v) := letIn_sU _ _ _ _ _
      have hb' : (sU s d v).g.bx (sU s d v).g.dp dst = none := hb
      have he' : ev (sU s d v).tm x = some a := by show ev (upd s.tm d (some v)) x = _; rw [ev_upd hx, he]
      have hc' : boxCells ti (.box (sU s d v).g.dp dst 0) a = some cs := hc
      simp only [boxA, hT, hb, he, hc, hb', he', hc']
      have h1' : letIn (.box (sU s d v).g.dp dst 0) a (sU s d v) = sU (letIn (.box s.g.dp dst 0) a s) d (doφ (.box s.g.dp dst 0) a v) := h1
      rw [h1']
      simp only [sU, Option.map_some]
      rw [upd_comm hd] <;> rfl
     ·simp only [boxA, hT, hb, he, hc, Option.some.injEq] at hs
      subst hs
      show upd _ dst _ t' = _
      rw [upd_ne (fun e => ht (by rw [e]))]
      exact letIn_get _ _ _ _
     ·exact hB.elim
theorem UpdOk.congr {B : Prop} {f g : St → Option St} {dst : Option Nat} {s : St} {d : Nat} (h0 : f s = g s) (h : ∀ v, f (sU s d v) = g (sU s d v)) (hg : UpdOk T B g dst s d) : UpdOk T B f dst s d := by
 obtain ⟨φ, h1, h2, h3⟩ := hg
 exact ⟨φ, h1, fun v => by rw [h, h2, h0], fun s1 hs => h3 s1 (by rw [← h0]; exact hs)⟩
theorem setSt_sU (i : Id) (n sz : Nat) (c : List D) (s : St) (d : Nat) (v : AV) : setSt i n sz c (sU s d v) = sU (setSt i n sz c s) d (setRaw i n sz c v) := by
 unfold setSt sU
 congr 1
 funext t
 simp only [setTm, upd]
 cases h : Nat.beq t d <;> simp
theorem storeA_upd {t : Nat} {q x : Operand} {s : St} {d : Nat} (hq : q ≠ .tmp d) (hx : x ≠ .tmp d) : UpdOk T False (storeA T t q x) none s d := by
 cases hT : T t with
 | none => exact UpdOk.fail (by simp [storeA, hT]) (fun v => by simp [storeA, hT])
 | some ti =>
  have hq' : ∀ v, ev (sU s d v).tm q = ev s.tm q := fun v => ev_upd hq
  have hx' : ∀ v, ev (sU s d v).tm x = ev s.tm x := fun v => ev_upd hx
  cases hp : ev s.tm q with
  | none => exact UpdOk.fail (by simp [storeA, hT, hp]) (fun v => by simp [storeA, hT, hq', hp])
  | some pv =>
   cases he : ev s.tm x with
   | none => exact UpdOk.fail (by simp [storeA, hT, hp, he]) (fun v => by simp [storeA, hT, hq', hx', hp, he])
   | some a =>
    cases pv with
    | ptr b u off =>
     have e0 : ∀ s, ev s.tm q = some (.ptr b u off) → ev s.tm x = some a → storeA T t q x s = storeB ti b u off a s := fun s h1 h2 => by simp only [storeA, hT, h1, h2]
     refine UpdOk.congr (g := storeB ti b u off a) (e0 s hp he) (fun v => e0 _ (by rw [hq', hp]) (by rw [hx', he])) ?_
     cases hc : boxCells ti (.box b u off) a with
     | none => exact UpdOk.fail (by simp [storeB, hc]) (fun v => by simp [storeB, hc])
     | some cs =>
      refine ⟨_, DemIn.doφ (nm := .box b u off) trivial he, fun v => ?_, fun s1 hs => ⟨fun t' ht => ?_, fun hB => ?_⟩⟩
      ·have h1 : letIn (.box b u off) a (sU s d v) = sU (letIn (.box b u off) a s) d (doφ (.box b u off) a v) := letIn_sU _ _ _ _ _
       simp only [storeB, hc]
       rw [h1]
       have hg : (sU (letIn (.box b u off) a s) d (doφ (.box b u off) a v)).g = (letIn (.box b u off) a s).g := rfl
       rw [hg]
       have hdp : (sU s d v).g.dp = s.g.dp := rfl
       rw [hdp]
       cases (letIn (.box b u off) a s).g.bx b u with
       | none => rfl
       | some bo =>
        simp only
        split <;> rfl
      ·simp only [storeB, hc] at hs
       cases hb : (letIn (.box b u off) a s).g.bx b u with
       | none => simp [hb] at hs
       | some bo =>
        simp only [hb] at hs
        split at hs
        ·simp only [Option.some.injEq] at hs
         subst hs
         exact letIn_get _ _ _ _
        ·cases hs
      ·exact hB.elim
    | raw o k i z es =>
     cases o with
     | none => exact UpdOk.fail (by simp [storeA, hT, hp, he]) (fun v => by simp [storeA, hT, hq', hx', hp, he])
     | some n =>
      have e0 : ∀ s, ev s.tm q = some (.raw (some n) k i z es) → ev s.tm x = some a → storeA T t q x s = storeR ti n k i z es a s := fun s h1 h2 => by simp only [storeA, hT, h1, h2]
      refine UpdOk.congr (g := storeR ti n k i z es a) (e0 s hp he) (fun v => e0 _ (by rw [hq', hp]) (by rw [hx', he])) ?_
      cases hc : rowCells ti a with
      | none => exact UpdOk.fail (by simp [storeR, hc]) (fun v => by simp [storeR, hc])
      | some cs =>
       by_cases hcond : (Nat.beq z ti.size && Nat.ble 1 z && (Nat.ble k n && Nat.blt n es.length)) = true
       ·refine ⟨_, DemIn.setRaw s i n z cs, fun v => ?_, fun s1 hs => ⟨fun t' ht => ?_, fun hB => hB.elim⟩⟩
        ·simp only [storeR, hc, hcond, if_true, Option.map_some]
         rw [setSt_sU]
        ·simp only [storeR, hc, hcond, if_true, Option.some.injEq] at hs
         subst hs
         show setTm _ _ _ _ _ _ = _
         unfold setTm
         cases s.tm t' <;> rfl
       ·exact UpdOk.fail (by simp only [storeR, hc]; rw [if_neg hcond]) (fun v => by simp only [storeR, hc]; rw [if_neg hcond])
    | _ => exact UpdOk.fail (by simp [storeA, hT, hp, he]) (fun v => by simp [storeA, hT, hq', hx', hp, he])
theorem putOwn_upd {k : Option Nat} {dst sz : Nat} {es : List (List D)} {s : St} {d : Nat} (hd : dst ≠ d) : UpdOk T True (putOwn k dst sz es) (some dst) s d := by
 cases hf : s.fr dst with
 | true => exact UpdOk.fail (by simp [putOwn, hf]) (fun v => by simp [putOwn, sU, hf])
 | false =>
  refine ⟨_, DemIn.id _, fun v => ?_, fun s1 hs => ⟨fun t' ht => ?_, fun hB => ?_⟩⟩
  ·have hf' : (sU s d v).fr dst = false := hf
   simp only [putOwn, hf, hf', Bool.false_eq_true, if_false, Option.map_some, sU]
   rw [upd_comm hd] <;> rfl
  ·simp only [putOwn, hf, Bool.false_eq_true, if_false, Option.some.injEq] at hs
   subst hs
   rw [map_id']
   exact upd_ne (fun e => ht (by rw [e]))
  ·simp only [putOwn, hf, Bool.false_eq_true, if_false, Option.some.injEq] at hs
   subst hs
   intro t a; exact loadA_id T _ t a
theorem buildSliceA_upd {dst t n : Nat} {parts : List (Nat × Operand)} {s : St} {d : Nat} (hd : dst ≠ d) (hx : ∀ q ∈ parts, q.2 ≠ .tmp d) : UpdOk T True (buildSliceA T dst t n parts) (some dst) s d := by
 cases hT : T t with
 | none => exact UpdOk.fail (by simp [buildSliceA, hT]) (fun v => by simp [buildSliceA, hT])
 | some ti =>
  by_cases hk : ti.kind = 2
  ·cases hTe : T ti.elem with
   | none => exact UpdOk.fail (by simp [buildSliceA, hT, hk, hTe]) (fun v => by simp [buildSliceA, hT, hk, hTe])
   | some te =>
    have hpc : ∀ v, partCells te.size (ev (sU s d v).tm) parts (List.replicate n te.zero) = partCells te.size (ev s.tm) parts (List.replicate n te.zero) := fun v =>
     partCells_dem (p := Pz.of fun _ => false) (fun q hq => by
      show ev (upd s.tm d (some v)) q.2 = _
      rw [ev_upd (hx q hq)]
      cases ev s.tm q.2 <;> simp [demP_none])
    cases hp : partCells te.size (ev s.tm) parts (List.replicate n te.zero) with
    | none => exact UpdOk.fail (by simp [buildSliceA, hT, hk, hTe, hp]) (fun v => by simp only [buildSliceA, hT, hk, hTe, hpc, hp])
    | some es =>
     by_cases hc : (Nat.ble (n * te.size) 16777216 && Nat.ble 1 te.size) = true
     ·exact UpdOk.congr (g := putOwn none dst te.size (es.map (nrmC te.sls))) (by simp only [buildSliceA, hT, hk, hTe, hp, hc, if_true]) (fun v => by simp only [buildSliceA, hT, hk, hTe, hpc, hp, hc, if_true]) (putOwn_upd hd)
     ·exact UpdOk.fail (by simp only [buildSliceA, hT, hk, hTe, hp]; rw [if_neg hc]) (fun v => by simp only [buildSliceA, hT, hk, hTe, hpc, hp]; rw [if_neg hc])
  ·refine UpdOk.fail ?_ (fun v => ?_)
   ·simp only [buildSliceA, hT]
    split
    ·rename_i h _; exact absurd h hk
    ·rfl
   ·simp only [buildSliceA, hT]
    split
    ·rename_i h _; exact absurd h hk
    ·rfl
theorem UpdOk.after_dem {B : Prop} {f : St → Option St} {dst : Option Nat} {s : St} {d : Nat} (i : Id) (hi : ∃ t a, s.tm t = some a ∧ ownId a = some i) (h : UpdOk T B f dst (demSt i s) d) : UpdOk T B (fun s => f (demSt i s)) dst s d := by
 obtain ⟨φ, h1, h2, h3⟩ := h
 refine ⟨fun a => φ (dem i a), h1.of_dem.comp (DemIn.dem (.inr hi)), fun v => ?_, fun s1 hs => ⟨fun t ht => ?_, fun hB t a => ?_⟩⟩
 ·simp only
  rw [demSt_sU, h2]
 ·rw [(h3 s1 hs).1 t ht]
  show (demTm i s.tm t).map φ = _
  rw [demTm_get, Option.map_map]
  rfl
 ·rw [(h3 s1 hs).2 hB t (dem i a)]
  show (loadA T (demBx i s.g.bx) t (dem i a)).map φ = _
  rw [loadA_dem, Option.map_map]
  rfl
theorem appendA_upd {rw : Bool} {dst : Nat} {ti t2 : TI} {x y : Operand} {s : St} {d : Nat} (hd : dst ≠ d) (hx : x ≠ .tmp d) (hy : y ≠ .tmp d) : UpdOk T True (appendA T rw dst ti t2 x y) (some dst) s d := by
 have hx' : ∀ v, ev (sU s d v).tm x = ev s.tm x := fun v => ev_upd hx
 have hy' : ∀ v, ev (sU s d v).tm y = ev s.tm y := fun v => ev_upd hy
 ·by_cases hk : ti.kind = 2
  case neg =>
   refine UpdOk.fail ?_ (fun v => ?_)
   ·simp only [appendA]
    split
    ·rename_i h _; exact absurd h hk
    ·rfl
   ·simp only [appendA]
    split
    ·rename_i h _; exact absurd h hk
    ·rfl
  cases hTe : T ti.elem with
  | none => exact UpdOk.fail (by simp [appendA, hk, hTe]) (fun v => by simp [appendA, hk, hTe])
  | some te =>
   cases ha : ev s.tm x with
   | none => exact UpdOk.fail (by simp [appendA, hk, hTe, ha]) (fun v => by simp only [appendA, hk, hTe, hx', ha])
   | some a =>
    cases hb : ev s.tm y with
    | none => exact UpdOk.fail (by simp [appendA, hk, hTe, ha, hb]) (fun v => by simp only [appendA, hk, hTe, hx', hy', ha, hb])
    | some b =>
     cases hr : AV.rowS t2 te b with
     | none => exact UpdOk.fail (by simp [appendA, hk, hTe, ha, hb, hr]) (fun v => by simp only [appendA, hk, hTe, hx', hy', ha, hb, hr])
     | some ys =>
      cases a with
      | own i sz es =>
       by_cases hc : (Nat.beq sz te.size && Nat.ble ((es.length + ys.length) * (te.bytes + 1)) most && Nat.ble 1 te.size && rawC rw es.length ys.length) = true
       ·exact UpdOk.congr (g := fun s => putOwn (rawK rw es.length) dst te.size (es ++ ys) (demSt i s)) (by simp only [appendA, hk, hTe, ha, hb, hr, hc, if_true]) (fun v => by simp only [appendA, hk, hTe, hx', hy', ha, hb, hr, hc, if_true]) (UpdOk.after_dem i (ev_own ha rfl) (putOwn_upd hd))
       ·exact UpdOk.fail (by simp only [appendA, hk, hTe, ha, hb, hr]; rw [if_neg hc]) (fun v => by simp only [appendA, hk, hTe, hx', hy', ha, hb, hr]; rw [if_neg hc])
      | d z =>
       cases z with
       | nils =>
        by_cases hc : (Nat.ble (ys.length * (te.bytes + 1)) most && Nat.ble 1 te.size) = true
        ·exact UpdOk.congr (g := putOwn (rawK rw 0) dst te.size ys) (by simp only [appendA, hk, hTe, ha, hb, hr, hc, if_true]) (fun v => by simp only [appendA, hk, hTe, hx', hy', ha, hb, hr, hc, if_true]) (putOwn_upd hd)
        ·exact UpdOk.fail (by simp only [appendA, hk, hTe, ha, hb, hr]; rw [if_neg hc]) (fun v => by simp only [appendA, hk, hTe, hx', hy', ha, hb, hr]; rw [if_neg hc])
       | full sz es =>
        by_cases hc : (Nat.beq sz te.size && Nat.ble ((es.length + ys.length) * (te.bytes + 1)) most && Nat.ble 1 te.size && rawC rw es.length ys.length) = true
        ·exact UpdOk.congr (g := putOwn (rawK rw es.length) dst te.size (es ++ ys)) (by simp only [appendA, hk, hTe, ha, hb, hr, hc, if_true]) (fun v => by simp only [appendA, hk, hTe, hx', hy', ha, hb, hr, hc, if_true]) (putOwn_upd hd)
        ·exact UpdOk.fail (by simp only [appendA, hk, hTe, ha, hb, hr]; rw [if_neg hc]) (fun v => by simp only [appendA, hk, hTe, hx', hy', ha, hb, hr]; rw [if_neg hc])
       | _ => exact UpdOk.fail (by simp only [appendA, hk, hTe, ha, hb, hr]) (fun v => by simp only [appendA, hk, hTe, hx', hy', ha, hb, hr])
      | _ => exact UpdOk.fail (by simp only [appendA, hk, hTe, ha, hb, hr]) (fun v => by simp only [appendA, hk, hTe, hx', hy', ha, hb, hr])
theorem put_upd {dst : Nat} {V : St → Option AV} {s : St} {d : Nat} (hd : dst ≠ d) (hV : ∀ v, V (sU s d v) = V s) : UpdOk T True (fun s => match V s with
  | some v => some { s with tm := upd s.tm dst (some v) }
  | none => none) (some dst) s d := by
 cases h : V s with
 | none => exact UpdOk.fail (by simp [h]) (fun v => by simp [hV, h])
 | some u =>
  refine ⟨_, DemIn.id _, fun v => ?_, fun s1 hs => ⟨fun t' ht => ?_, fun hB => ?_⟩⟩
  ·simp only [hV, h, Option.map_some]
   simp only [sU]
   rw [upd_comm hd.symm] <;> rfl
  ·simp only [h, Option.some.injEq] at hs
   subst hs
   rw [map_id']
   exact upd_ne (fun e => ht (by rw [e]))
  ·simp only [h, Option.some.injEq] at hs
   subst hs
   intro t a; exact loadA_id T _ t a
theorem makeFuncA_upd {hint : Hint} {dst : Nat} {f : Fn} {caps : List Operand} {s : St} {d : Nat} (hd : dst ≠ d) (hx : ∀ x ∈ caps, x ≠ .tmp d) : UpdOk T False (makeFuncA hint dst f caps) (some dst) s d := by
 have he : ∀ v, evs (sU s d v).tm caps = evs s.tm caps := fun v => evs_upd hx
 cases ha : evs s.tm caps with
 | none => exact UpdOk.fail (by simp [makeFuncA, ha]) (fun v => by simp [makeFuncA, he, ha])
 | some as =>
  by_cases hn : as.all noTup = true
  ·refine ⟨_, DemIn.id _, fun v => ?_, fun s1 hs => ⟨fun t' ht => ?_, fun hB => ?_⟩⟩
   ·simp only [makeFuncA, he, ha, hn, if_true, Option.map_some]
    simp only [sU]
    rw [upd_comm hd.symm] <;> rfl
   ·simp only [makeFuncA, ha, hn, if_true, Option.some.injEq] at hs
    subst hs
    rw [map_id']
    exact upd_ne (fun e => ht (by rw [e]))
   ·exact hB.elim
  ·exact UpdOk.fail (by simp only [makeFuncA, ha]; rw [if_neg hn]) (fun v => by simp only [makeFuncA, he, ha]; rw [if_neg hn])
theorem lenA_congr {E E' : Operand → Option AV} {c : Call} (h : ∀ x ∈ c.args.toList, E' x = E x) : lenA T E' c = lenA T E c := by
 unfold lenA
 split
 ·split
  ·split
   ·rename_i x t ts hargs htys
    rw [h x (by rw [hargs]; simp)]
   ·rfl
  ·split
   ·rename_i x y hargs
    rw [h x (by rw [hargs]; simp), h y (by rw [hargs]; simp)]
   ·rfl
 ·rfl
theorem callB_upd {hint : Hint} {dst : Nat} {c : Call} {s : St} {d : Nat} (hd : dst ≠ d) (hx : ∀ x ∈ c.args.toList, x ≠ .tmp d) : UpdOk T True (callB T hint dst c) (some dst) s d := by
 by_cases happ : isAppend c.callee = true
 ·cases hargs : c.args.toList with
  | nil => exact UpdOk.fail (by simp [callB, happ, hargs]) (fun v => by simp [callB, happ, hargs])
  | cons x l =>
   cases l with
   | nil => exact UpdOk.fail (by simp [callB, happ, hargs]) (fun v => by simp [callB, happ, hargs])
   | cons y l =>
    cases l with
    | cons _ _ => exact UpdOk.fail (by simp [callB, happ, hargs]) (fun v => by simp [callB, happ, hargs])
    | nil =>
     have q1 : x ≠ .tmp d := hx x (by rw [hargs]; simp)
     have q2 : y ≠ .tmp d := hx y (by rw [hargs]; simp)
     cases htys : c.argTypes.toList with
     | nil => exact UpdOk.fail (by simp [callB, happ, hargs, htys]) (fun v => by simp [callB, happ, hargs, htys])
     | cons t l =>
      cases l with
      | nil => exact UpdOk.fail (by simp [callB, happ, hargs, htys]) (fun v => by simp [callB, happ, hargs, htys])
      | cons t' l =>
       cases l with
       | cons _ _ => exact UpdOk.fail (by simp [callB, happ, hargs, htys]) (fun v => by simp [callB, happ, hargs, htys])
       | nil =>
        cases hti : T t with
        | none => exact UpdOk.fail (by simp [callB, happ, hargs, htys, hti]) (fun v => by simp [callB, happ, hargs, htys, hti])
        | some ti =>
         cases ht2 : T t' with
         | none => exact UpdOk.fail (by simp [callB, happ, hargs, htys, hti, ht2]) (fun v => by simp [callB, happ, hargs, htys, hti, ht2])
         | some t2 =>
          by_cases htt : (Nat.beq t t' || Nat.beq t2.kind 3) = true
          ·exact UpdOk.congr (g := appendA T (hint.raw.any (Nat.beq dst ·)) dst ti t2 x y) (by simp only [callB, happ, hargs, htys, hti, ht2, htt, if_true]) (fun v => by simp only [callB, happ, hargs, htys, hti, ht2, htt, if_true]) (appendA_upd hd q1 q2)
          ·exact UpdOk.fail (by simp only [callB, happ, hargs, htys, hti, ht2, if_true]; rw [if_neg htt]) (fun v => by simp only [callB, happ, hargs, htys, hti, ht2, if_true]; rw [if_neg htt])
 ·refine UpdOk.congr (g := fun s => match lenA T (ev s.tm) c with
    | some v => some { s with tm := upd s.tm dst (some v) }
    | none => none) ?_ (fun v => ?_) (put_upd hd (V := fun s => lenA T (ev s.tm) c) fun v => lenA_congr fun x h => ev_upd (hx x h))
  ·simp only [callB]; rw [if_neg happ]; rfl
  ·simp only [callB]; rw [if_neg happ]; rfl
def keepsBx : Cl → Bool
 | .alloc | .store => false
 | _ => true
theorem UpdOk.weak {B B' : Prop} {f : St → Option St} {dst : Option Nat} {s : St} {d : Nat} (h : UpdOk T B f dst s d) (hB : B' → B) : UpdOk T B' f dst s d := by
 obtain ⟨φ, h1, h2, h3⟩ := h
 exact ⟨φ, h1, h2, fun s1 hs => ⟨(h3 s1 hs).1, fun hb => (h3 s1 hs).2 (hB hb)⟩⟩
theorem stepOp_upd {hint : Hint} {nt : Nat} {o : Oper} {s : St} {d : Nat} (hx : ∀ x ∈ o.op.operands.toList, x ≠ .tmp d) (hd : o.dst ≠ some d) : UpdOk T (keepsBx (clsOp o.op) = true) (stepOp T hint nt o) o.dst s d := by
 obtain ⟨dst, op, type, pos, aft, guard⟩ := o
 simp only at hx hd ⊢
 cases dst with
 | none =>
  cases op with
  | store t p x =>
   have q1 : p ≠ .tmp d := hx p (by simp [Op.operands])
   have q2 : x ≠ .tmp d := hx x (by simp [Op.operands])
   exact UpdOk.congr (g := storeA T t p x) (by simp only [stepOp]) (fun v => by simp only [stepOp]) ((storeA_upd q1 q2).weak (by simp [clsOp, keepsBx]))
  | _ => exact UpdOk.fail (by simp [stepOp]) (fun v => by simp [stepOp])
 | some dst =>
  have hdd : dst ≠ d := fun e => hd (by rw [e])
  by_cases hlt : Nat.blt dst nt = true
  case neg => exact UpdOk.fail (by simp only [stepOp]; rw [if_neg hlt]) (fun v => by simp only [stepOp]; rw [if_neg hlt])
  have opCase : (∀ s', stepOp T hint nt { dst := some dst, op, type, pos, after := aft, guard } s' = match opP T (ev s'.tm) op with
    | some v => some { s' with tm := upd s'.tm dst (some v) }
    | none => none) → UpdOk T (keepsBx (clsOp op) = true) (stepOp T hint nt { dst := some dst, op, type, pos, after := aft, guard }) (some dst) s d := fun he =>
   UpdOk.congr (he s) (fun v => he _) ((put_upd hdd (V := fun s => opP T (ev s.tm) op) fun v => opP_congr fun x h => ev_upd (hx x h)).weak fun _ => trivial)
  cases op with
  | alloc t => exact UpdOk.congr (g := allocA T dst t) (by simp only [stepOp, hlt, if_true]) (fun v => by simp only [stepOp, hlt, if_true]) ((allocA_upd hdd).weak (by simp [clsOp, keepsBx]))
  | box t x =>
   have q1 : x ≠ .tmp d := hx x (by simp [Op.operands])
   exact UpdOk.congr (g := boxA T dst t x) (by simp only [stepOp, hlt, if_true]) (fun v => by simp only [stepOp, hlt, if_true]) ((boxA_upd hdd q1).weak (by simp [clsOp, keepsBx]))
  | load t p =>
   have q1 : p ≠ .tmp d := hx p (by simp [Op.operands])
   refine UpdOk.congr (g := fun s => match (match ev s.tm p with
     | some a => loadA T s.g.bx t a
     | none => none) with
    | some v => some { s with tm := upd s.tm dst (some v) }
    | none => none) ?_ (fun v => ?_) ((put_upd hdd (V := fun s => match ev s.tm p with
     | some a => loadA T s.g.bx t a
     | none => none) fun v => by show (match ev (upd s.tm d (some v)) p with | some a => loadA T s.g.bx t a | none => none) = _; rw [ev_upd q1]).weak fun _ => trivial)
   ·simp only [stepOp, hlt, if_true]
    cases ev s.tm p with
    | none => rfl
    | some a => rfl
   ·simp only [stepOp, hlt, if_true]
    cases ev (sU s d v).tm p with
    | none => rfl
    | some a => rfl
  | buildSlice t n parts =>
   have q1 : ∀ q ∈ parts.toList, q.2 ≠ .tmp d := fun q hq => hx q.2 (by simp [Op.operands]; exact ⟨q.1, by simpa using hq⟩)
   exact UpdOk.congr (g := buildSliceA T dst t n parts.toList) (by simp only [stepOp, hlt, if_true]) (fun v => by simp only [stepOp, hlt, if_true]) ((buildSliceA_upd hdd q1).weak fun _ => trivial)
  | call c =>
   have q1 : ∀ x ∈ c.args.toList, x ≠ .tmp d := fun x hxx => hx x (by simp [Op.operands, Call.operands]; exact .inr (by simpa using hxx))
   exact UpdOk.congr (g := callB T hint dst c) (by simp only [stepOp, hlt, if_true]) (fun v => by simp only [stepOp, hlt, if_true]) ((callB_upd hdd q1).weak fun _ => trivial)
  | makeFunc f first caps =>
   have q1 : ∀ x ∈ caps.toList, x ≠ .tmp d := fun x hxx => hx x (by simp [Op.operands]; exact .inr (by simpa using hxx))
   by_cases hf : first.isEmpty = true
   ·exact UpdOk.congr (g := makeFuncA hint dst f caps.toList) (by simp only [stepOp, hlt, hf, if_true]) (fun v => by simp only [stepOp, hlt, hf, if_true]) ((makeFuncA_upd hdd q1).weak (by simp [clsOp, keepsBx]))
   ·exact UpdOk.fail (by simp only [stepOp, hlt, if_true]; rw [if_neg hf]) (fun v => by simp only [stepOp, hlt, if_true]; rw [if_neg hf])
  | _ => exact opCase (fun s' => by (simp only [stepOp, hlt, if_true]) <;> rfl)
end
end Go.Abs
namespace Go.Abs
open Go
set_option linter.unusedVariables false
set_option linter.unusedSimpArgs false
set_option linter.unnecessarySimpa false
set_option linter.unusedSectionVars false
variable [Tabs]
def nrm {R : Type} (KP : D → G → Option R) (K : St → Option R) : Ex → St → Option R := fun e s => match e with
 | .normal => K s
 | .panic x => KP x s.g
 | _ => none
def noP {R : Type} : D → G → Option R := fun _ _ => none
theorem nrm_eq {R : Type} {KP : D → G → Option R} {k : Ex → St → Option R} (K : St → Option R) (h : ∀ s, k .normal s = K s) (h2 : ∀ x s, k (.panic x) s = KP x s.g) (h' : ∀ e s, e ≠ .normal → (∀ x, e ≠ .panic x) → k e s = none) : k = nrm KP K := by
 funext e s
 cases e with
 | normal => exact h s
 | panic x => exact h2 x s
 | _ => exact h' _ s (by simp) (by simp)
section
variable {R : Type} {cx : Cx R} {KP : D → G → Option R}
def operFree (ops : Array Oper) (o : Oper) (d : Nat) : Prop := (∀ x ∈ o.op.operands.toList, x ≠ .tmp d) ∧ ∀ g w g0, o.guard = some (g, w) → ops[g]? = some g0 → g0.dst ≠ some d
theorem operFree_of {ops : Array Oper} {o : Oper} {d : Nat} (h : d ∉ o.looksAt ops) : operFree ops o d := by
 refine ⟨fun x hx e => ?_, fun g w g0 hg hg0 hd => ?_⟩
 ·subst e
  exact h (List.mem_append_left _ (List.mem_filterMap.2 ⟨.tmp d, hx, rfl⟩))
 ·refine h (List.mem_append_right _ ?_)
  simp [hg, hg0, hd]
theorem guardV_dem {p : Pz} {ops : Array Oper} {tm tm' : Nat → Option AV} {g : Nat} (h : ∀ g0 t, ops[g]? = some g0 → g0.dst = some t → tm' t = (tm t).map (demP p)) : guardV ops tm' g = guardV ops tm g := by
 unfold guardV
 cases hg : ops[g]? with
 | none => rfl
 | some o =>
  simp only
  cases hd : o.dst with
  | none => rfl
  | some t =>
   simp only
   rw [h o t hg hd]
   cases tm t with
   | none => rfl
   | some a =>
    cases a with
    | own j z es => simp only [Option.map_some, demP]; cases p.p j <;> rfl
    | raw o k j z es => simp only [Option.map_some, demP]; cases (p.p j || p.q j z) <;> rfl
    | tup xs => cases xs <;> simp [demP, demPs]
    | _ => simp [demP]
theorem guardV_upd {ops : Array Oper} {tm : Nat → Option AV} {g d : Nat} {v : Option AV} (h : ∀ g0, ops[g]? = some g0 → g0.dst ≠ some d) : guardV ops (upd tm d v) g = guardV ops tm g := by
 refine guardV_dem (p := Pz.of fun _ => false) ?_
 intro g0 t hg ht
 rw [upd_ne (fun e => h g0 hg (by rw [ht, e]))]
 cases tm t <;> simp [demP_none]
def RunUpd (f : St → (Ex → St → Option R) → Option R) (T : Nat → Option TI) (B : AV → Prop) (dst : Option Nat) (s : St) (d : Nat) : Prop :=
 ∃ φ, Dem φ ∧ (∀ KP v K, f (sU s d v) (nrm KP K) = f s (nrm KP fun s1 => K (sU s1 d (φ v)))) ∧
  ∀ (KP : D → G → Option R) (K1 K2 : St → Option R), (∀ s1, (∀ t, dst ≠ some t → s1.tm t = (s.tm t).map φ) → (∀ a, B a → s1.g.dp = s.g.dp ∧ ∀ t, loadA T s1.g.bx t (φ a) = (loadA T s.g.bx t a).map φ) → K1 s1 = K2 s1) → f s (nrm KP K1) = f s (nrm KP K2)
theorem putRes_dp {nt : Nat} {dst : Option Nat} {rs : List AV} {s s1 : St} (h : putRes nt dst rs s = some s1) : s1.g.dp = s.g.dp := by
 cases dst with
 | none => simp only [putRes, Option.some.injEq] at h; subst h; rfl
 | some d' =>
  simp only [putRes] at h
  split at h
  ·cases h
  ·split at h
   ·simp only [Option.some.injEq] at h; subst h; rfl
   ·cases h
theorem putV_dp {nt : Nat} {dst : Option Nat} {x : AV} {s s1 : St} (h : putV nt dst x s = some s1) : s1.g.dp = s.g.dp := by
 cases dst with
 | none => simp only [putV, Option.some.injEq] at h; subst h; rfl
 | some d' =>
  simp only [putV] at h
  split at h
  ·simp only [Option.some.injEq] at h; subst h; rfl
  ·cases h
theorem RunUpd.fail {f : St → (Ex → St → Option R) → Option R} {T : Nat → Option TI} {B : AV → Prop} {dst : Option Nat} {s : St} {d : Nat} (h0 : ∀ KP K, f s (nrm KP K) = none) (h : ∀ KP v K, f (sU s d v) (nrm KP K) = none) : RunUpd f T B dst s d :=
 ⟨_, Dem.id, fun KP v K => by rw [h, h0], fun KP K1 K2 _ => by rw [h0, h0]⟩
theorem RunUpd.pan {f : St → (Ex → St → Option R) → Option R} {T : Nat → Option TI} {B : AV → Prop} {dst : Option Nat} {s : St} {d : Nat} {x : D} (h0 : ∀ KP K, f s (nrm KP K) = KP x s.g) (h : ∀ KP v K, f (sU s d v) (nrm KP K) = KP x s.g) : RunUpd f T B dst s d :=
 ⟨_, Dem.id, fun KP v K => by rw [h, h0], fun KP K1 K2 _ => by rw [h0, h0]⟩
theorem RunUpd.of_upd {f : St → (Ex → St → Option R) → Option R} {F : St → Option St} {T : Nat → Option TI} {B : Prop} {dst : Option Nat} {s : St} {d : Nat} (hf : ∀ KP s K, f s (nrm KP K) = match F s with
  | some s' => K s'
  | none => none) (hdp : ∀ s1, F s = some s1 → s1.g.dp = s.g.dp) (h : UpdOk T B F dst s d) : RunUpd f T (fun _ => B) dst s d := by
 obtain ⟨φ, h1, h2, h3⟩ := h
 refine ⟨φ, h1.all, fun KP v K => ?_, fun KP K1 K2 hk => ?_⟩
 ·rw [hf, hf, h2]
  cases F s <;> rfl
 ·rw [hf, hf]
  cases hF : F s with
  | none => rfl
  | some s1 =>
   exact hk s1 (h3 s1 hF).1 (fun a hb => ⟨hdp s1 hF, fun t => (h3 s1 hF).2 hb t a⟩)
theorem RunUpd.congr {f g : St → (Ex → St → Option R) → Option R} {T : Nat → Option TI} {B : AV → Prop} {dst : Option Nat} {s : St} {d : Nat} (h0 : ∀ KP K, f s (nrm KP K) = g s (nrm KP K)) (h : ∀ KP v K, f (sU s d v) (nrm KP K) = g (sU s d v) (nrm KP K)) (hg : RunUpd g T B dst s d) : RunUpd f T B dst s d := by
 obtain ⟨φ, h1, h2, h3⟩ := hg
 exact ⟨φ, h1, fun KP v K => by rw [h, h2, h0], fun KP K1 K2 hk => by rw [h0, h0]; exact h3 KP K1 K2 hk⟩
theorem putRes_upd {T : Nat → Option TI} {nt : Nat} {dst : Option Nat} {rs : List AV} {s : St} {d : Nat} (hd : dst ≠ some d) : UpdOk T True (putRes nt dst rs) dst s d := by
 cases dst with
 | none =>
  refine ⟨_, DemIn.id _, fun v => rfl, fun s1 hs => ?_⟩
  simp only [putRes, Option.some.injEq] at hs
  subst hs
  exact ⟨fun t _ => (map_id' _).symm, fun _ t a => loadA_id T _ t a⟩
 | some d' =>
  have hdd : d' ≠ d := fun e => hd (by rw [e])
  by_cases hf : s.fr d' = true
  ·exact UpdOk.fail (by simp only [putRes]; rw [if_pos hf]) (fun v => by simp only [putRes]; rw [if_pos (show (sU s d v).fr d' = true from hf)])
  ·by_cases hlt : Nat.blt d' nt = true
   ·refine ⟨_, DemIn.id _, fun v => ?_, fun s1 hs => ?_⟩
    ·simp only [putRes]
     rw [if_neg hf, if_pos hlt, if_neg (show ¬ (sU s d v).fr d' = true from hf), if_pos hlt]
     simp only [Option.map_some, sU]
     rw [upd_comm hdd] <;> rfl
    ·simp only [putRes] at hs
     rw [if_neg hf, if_pos hlt] at hs
     simp only [Option.some.injEq] at hs
     subst hs
     refine ⟨fun t ht => ?_, fun _ t a => loadA_id T _ t a⟩
     rw [map_id']
     exact upd_ne (fun e => ht (by rw [e]))
   ·exact UpdOk.fail (by simp only [putRes]; rw [if_neg hf, if_neg hlt]) (fun v => by simp only [putRes]; rw [if_neg (show ¬ (sU s d v).fr d' = true from hf), if_neg hlt])
theorem mapTm_upd {φ : AV → AV} {tm : Nat → Option AV} {d : Nat} {v : AV} : mapTm φ (upd tm d (some v)) = upd (mapTm φ tm) d (some (φ v)) := by
 funext t
 unfold mapTm upd
 by_cases h : Nat.beq t d = true
 ·rw [if_pos h, if_pos h]
 ·rw [if_neg h, if_neg h]
theorem mapTm_get (φ : AV → AV) (tm : Nat → Option AV) (t : Nat) : mapTm φ tm t = (tm t).map φ := by
 unfold mapTm; cases tm t <;> rfl
theorem RunUpd.weak {f : St → (Ex → St → Option R) → Option R} {T : Nat → Option TI} {B B' : AV → Prop} {dst : Option Nat} {s : St} {d : Nat} (h : RunUpd f T B dst s d) (hB : ∀ a, B' a → B a) : RunUpd f T B' dst s d := by
 obtain ⟨φ, h1, h2, h3⟩ := h
 exact ⟨φ, h1, h2, fun KP K1 K2 hk => h3 KP K1 K2 fun s1 q1 q2 => hk s1 q1 fun a hb => q2 a (hB a hb)⟩
theorem behindF_upd {φ : AV → AV} (hφ : Dem φ) {dst : Option Nat} {s : St} {d : Nat} (hd : dst ≠ some d) (A : (Out → G → Option R) → Option R) {Gp : G → Prop} (hA : ∀ c1 c2, (∀ out g, Gp g → c1 out g = c2 out g) → A c1 = A c2) (f : St → (Ex → St → Option R) → Option R) (hf : ∀ KP v K, f (sU s d v) (nrm KP K) = A (behindF cx φ dst (sU s d v) (nrm KP K))) (hf0 : ∀ KP K, f s (nrm KP K) = A (behindF cx φ dst s (nrm KP K))) (T : Nat → Option TI) {B : AV → Prop} (hB : ∀ g, Gp g → ∀ a, B a → g.dp = s.g.dp ∧ ∀ t, loadA T g.bx t (φ a) = (loadA T s.g.bx t a).map φ) :
  RunUpd f T B dst s d := by
 refine ⟨φ, hφ, fun KP v K => ?_, fun KP K1 K2 hk => ?_⟩
 ·rw [hf, hf0]
  refine hA _ _ fun out g hg => ?_
  cases out with
  | pan x => rfl
  | ret rs =>
   simp only [behindF]
   have hs : ({ tm := mapTm φ (sU s d v).tm, fr := (sU s d v).fr, g } : St) = sU { tm := mapTm φ s.tm, fr := s.fr, g } d (φ v) := by
    simp only [sU]
    rw [mapTm_upd]
   rw [hs]
   obtain ⟨_, h1, h2, h3⟩ := putRes_upd (T := T) (nt := cx.nt) (rs := rs) (s := { tm := mapTm φ s.tm, fr := s.fr, g }) hd
   have hp : putRes cx.nt dst rs (sU { tm := mapTm φ s.tm, fr := s.fr, g } d (φ v)) = (putRes cx.nt dst rs { tm := mapTm φ s.tm, fr := s.fr, g }).map fun s1 => sU s1 d (φ v) := by
    cases dst with
    | none => rfl
    | some d' =>
     have hdd : d' ≠ d := fun e => hd (by rw [e])
     simp only [putRes]
     have hfr : (sU { tm := mapTm φ s.tm, fr := s.fr, g } d (φ v)).fr d' = s.fr d' := rfl
     rw [hfr]
     by_cases q1 : s.fr d' = true
     ·rw [if_pos q1, if_pos q1]; rfl
     ·rw [if_neg q1, if_neg q1]
      by_cases q2 : Nat.blt d' cx.nt = true
      ·rw [if_pos q2, if_pos q2]
       simp only [Option.map_some, sU]
       rw [upd_comm hdd] <;> rfl
      ·rw [if_neg q2, if_neg q2]; rfl
   rw [hp]
   cases putRes cx.nt dst rs { tm := mapTm φ s.tm, fr := s.fr, g } <;> rfl
 ·rw [hf0, hf0]
  refine hA _ _ fun out g hg => ?_
  cases out with
  | pan x => rfl
  | ret rs =>
   simp only [behindF]
   cases hput : putRes cx.nt dst rs { tm := mapTm φ s.tm, fr := s.fr, g } with
   | none => rfl
   | some s1 =>
    have hbx : s1.g = g := by
     cases dst with
     | none => simp only [putRes, Option.some.injEq] at hput; subst hput; rfl
     | some d' =>
      simp only [putRes] at hput
      split at hput
      ·cases hput
      ·split at hput
       ·simp only [Option.some.injEq] at hput; subst hput; rfl
       ·cases hput
    refine hk s1 (fun t ht => ?_) (fun a hb => by rw [hbx]; exact hB g hg a hb)
    cases dst with
    | none =>
     simp only [putRes, Option.some.injEq] at hput
     subst hput
     exact mapTm_get _ _ _
    | some d' =>
     simp only [putRes] at hput
     split at hput
     ·cases hput
     ·split at hput
      ·simp only [Option.some.injEq] at hput
       subst hput
       show upd _ d' _ t = _
       rw [upd_ne (fun e => ht (by rw [e]))]
       exact mapTm_get _ _ _
      ·cases hput
theorem behind_upd {dst : Option Nat} {s : St} {d : Nat} (hd : dst ≠ some d) (A : (Out → G → Option R) → Option R) (f : St → (Ex → St → Option R) → Option R) (hf : ∀ KP v K, f (sU s d v) (nrm KP K) = A (behind cx dst (sU s d v) (nrm KP K))) (hf0 : ∀ KP K, f s (nrm KP K) = A (behind cx dst s (nrm KP K))) (T : Nat → Option TI) :
  RunUpd f T (fun _ => False) dst s d := behindF_upd (cx := cx) Dem.boxes hd A (Gp := fun _ => True) (fun c1 c2 h => by congr 1; funext out g; exact h out g trivial) f (fun KP v K => by rw [hf, behind_eq]) (fun KP K => by rw [hf0, behind_eq]) T (fun _ _ _ hb => hb.elim)
theorem callE_upd {dst : Option Nat} {fn : Fn} {as : List AV} {s : St} {d : Nat} (hd : dst ≠ some d) (T : Nat → Option TI) : RunUpd (fun s k => callE cx dst fn as s k) T (fun a => cx.hint.keep = true ∧ ∃ u off, a = .ptr s.g.dp u off) dst s d := by
 cases hk : cx.hint.keep with
 | false => exact (behind_upd (cx := cx) hd (cx.E (.fn fn) as s.g) _ (fun KP v K => by simp only [callE, hk]; rfl) (fun KP K => by simp only [callE, hk]) T).weak fun a h => (by simp at h)
 | true =>
  cases hc : (Nat.ble 1 s.g.dp && AV.uptos (s.g.dp - 1) as && s.g.lp.all (fun r => Nat.blt r.dp s.g.dp)) with
  | false => exact RunUpd.fail (fun KP K => by simp only [callE, hk, hc]) (fun KP v K => by simp only [callE, hk]; rw [show (Nat.ble 1 (sU s d v).g.dp && AV.uptos ((sU s d v).g.dp - 1) as && (sU s d v).g.lp.all (fun r => Nat.blt r.dp (sU s d v).g.dp)) = false from hc])
  | true =>
   have e0 : ∀ KP K, callE cx dst fn as s (nrm KP K) = (fun c => cx.E (.fn fn) as (kG s.g) fun out g' => c out (kunG s.g g')) (behindF cx (demF (offD s.g.dp)) dst s (nrm KP K)) := fun KP K => by simp only [callE, hk, hc]
   have e1 : ∀ KP v K, callE cx dst fn as (sU s d v) (nrm KP K) = (fun c => cx.E (.fn fn) as (kG s.g) fun out g' => c out (kunG s.g g')) (behindF cx (demF (offD s.g.dp)) dst (sU s d v) (nrm KP K)) := fun KP v K => by
    simp only [callE, hk]
    rw [show (Nat.ble 1 (sU s d v).g.dp && AV.uptos ((sU s d v).g.dp - 1) as && (sU s d v).g.lp.all (fun r => Nat.blt r.dp (sU s d v).g.dp)) = true from hc]
    rfl
   refine behindF_upd (cx := cx) (φ := demF (offD s.g.dp)) (Dem.demF _) hd (fun c => cx.E (.fn fn) as (kG s.g) fun out g' => c out (kunG s.g g')) (Gp := fun g => ∃ g', g = kunG s.g g') (fun c1 c2 h => ?_) (fun s k => callE cx dst fn as s k) e1 e0 T ?_
   ·show cx.E (.fn fn) as (kG s.g) _ = cx.E (.fn fn) as (kG s.g) _
    congr 1
    funext out g'
    exact h out _ ⟨g', rfl⟩
   ·rintro _ ⟨g', rfl⟩ a ⟨_, u, off, rfl⟩
    exact ⟨rfl, fun t => loadA_demF T _ kun_eq t⟩
theorem callA_upd {eff : Bool} {dst : Option Nat} {f : AV} {args : List AV} {s : St} {d : Nat} (hd : dst ≠ some d) (T : Nat → Option TI) : RunUpd (fun s k => callA cx eff dst f args s k) T (fun a => eff = false ∨ (cx.hint.keep = true ∧ ∃ u off, a = .ptr s.g.dp u off)) dst s d := by
 cases f with
 | d x =>
  cases x with
  | fn fn caps =>
   cases hds : AV.datas args with
   | some ds =>
    cases hc : cx.C fn (ds ++ caps) with
    | none => exact RunUpd.fail (fun KP K => by simp [callA, hds, hc]) (fun KP v K => by simp [callA, hds, hc])
    | some out =>
     cases out with
     | ret rs =>
      refine (RunUpd.of_upd (F := putRes cx.nt dst rs) (T := T) (B := True) (fun KP s K => ?_) (fun _ h => putRes_dp h) (putRes_upd hd)).weak fun _ _ => trivial
      simp only [callA, hds, hc]
      cases putRes cx.nt dst rs s <;> rfl
     | pan x => exact RunUpd.pan (x := x) (fun KP K => by simp [callA, hds, hc, nrm]) (fun KP v K => by simp [callA, hds, hc, nrm]; rfl)
   | none =>
    cases eff with
    | false => exact RunUpd.fail (fun KP K => by simp [callA, hds]) (fun KP v K => by simp [callA, hds])
    | true => exact (RunUpd.congr (g := fun s k => callE cx dst fn (args.map ownData ++ caps.map .d) s k) (fun KP K => by simp [callA, hds]) (fun KP v K => by simp [callA, hds]) (callE_upd hd T)).weak (by simp)
  | _ => exact RunUpd.fail (fun KP K => by simp [callA]) (fun KP v K => by simp [callA])
 | fn fn caps =>
  cases eff with
  | false => exact RunUpd.fail (fun KP K => by simp [callA]) (fun KP v K => by simp [callA])
  | true => exact (RunUpd.congr (g := fun s k => callE cx dst fn (args.map ownData ++ caps) s k) (fun KP K => by simp [callA]) (fun KP v K => by simp [callA]) (callE_upd hd T)).weak (by simp)
 | yld l =>
  cases heff : (eff && !cx.hint.keep) with
  | false => exact RunUpd.fail (fun KP K => by simp [callA, heff]) (fun KP v K => by simp [callA, heff])
  | true =>
   simp only [Bool.and_eq_true, Bool.not_eq_true'] at heff
   exact (behind_upd (cx := cx) hd (cx.E (.yld l) (args.map ownData) s.g) _ (fun KP v K => by simp [callA, heff.1, heff.2]; rfl) (fun KP K => by simp [callA, heff.1, heff.2]) T).weak (by simp [heff.1, heff.2])
 | _ => exact RunUpd.fail (fun KP K => by simp [callA]) (fun KP v K => by simp [callA])
theorem goCall_ops {op : Op} {f : Operand} {args : List Operand} (h : goCall op = some (f, args)) : f ∈ op.operands.toList ∧ ∀ x ∈ args, x ∈ op.operands.toList := by
 unfold goCall at h
 split at h
 ·rename_i c
  split at h
  ·rename_i f' hcl
   simp only [Option.some.injEq, Prod.mk.injEq] at h
   obtain ⟨rfl, rfl⟩ := h
   refine ⟨by simp [Op.operands, Call.operands, hcl], fun x hx => ?_⟩
   simp [Op.operands, Call.operands]
   exact .inr (by simpa using hx)
  ·cases h
 ·cases h
theorem goCall_cls {op : Op} {x : Operand × List Operand} (h : goCall op = some x) : clsOp op = .call := by
 unfold goCall at h
 split at h
 ·rename_i c
  split at h
  ·rename_i f hcl
   simp [clsOp, hcl]
  ·cases h
 ·cases h
theorem cls_noCall {op : Op} (h : goCall op = none) : clsOp op ≠ .call := by
 intro hc
 cases op with
 | call c =>
  simp only [clsOp] at hc
  simp only [goCall] at h
  split at hc
  ·rename_i f hf
   rw [hf] at h; cases h
  ·split at hc
   ·cases hc
   ·split at hc <;> cases hc
 | _ => cases hc
def bxB (cx : Cx R) (eff : Bool) (o : Oper) (s : St) : AV → Prop := fun a => (keepsBx (clsOp o.op) = true ∧ eff = false) ∨ (cx.hint.keep = true ∧ clsOp o.op = .call ∧ ∃ u off, a = .ptr s.g.dp u off)
theorem runOp_upd {eff : Bool} {ops : Array Oper} {o : Oper} {s : St} {d : Nat} (hx : operFree ops o d) (hd : o.dst ≠ some d) : RunUpd (fun s k => runOp cx eff o s k) cx.T (bxB cx eff o s) o.dst s d := by
 cases hg : goCall o.op with
 | none =>
  refine (RunUpd.of_upd (F := stepOp cx.T cx.hint cx.nt o) (B := keepsBx (clsOp o.op) = true) (fun KP s K => ?_) (fun _ h => (stepOp_g h).1) (stepOp_upd hx.1 hd)).weak fun a h => h.elim (fun h => h.1) fun h => absurd h.2.1 (cls_noCall hg)
  simp only [runOp, hg]
  cases stepOp cx.T cx.hint cx.nt o s <;> rfl
 | some fa =>
  obtain ⟨f, args⟩ := fa
  obtain ⟨q1, q2⟩ := goCall_ops hg
  have e1 : ∀ v, ev (sU s d v).tm f = ev s.tm f := fun v => ev_upd (hx.1 f q1)
  have e2 : ∀ v, evs (sU s d v).tm args = evs s.tm args := fun v => evs_upd fun x h => hx.1 x (q2 x h)
  cases hf : ev s.tm f with
  | none => exact RunUpd.fail (fun KP K => by simp [runOp, hg, hf]) (fun KP v K => by simp [runOp, hg, e1, hf])
  | some fv =>
   cases ha : evs s.tm args with
   | none => exact RunUpd.fail (fun KP K => by simp [runOp, hg, hf, ha]) (fun KP v K => by simp [runOp, hg, e1, e2, hf, ha])
   | some as =>
    by_cases hn : as.all noTup = true
    ·exact (RunUpd.congr (g := fun s k => callA cx eff o.dst fv as s k) (fun KP K => by simp only [runOp, hg, hf, ha, hn, if_true]) (fun KP v K => by simp only [runOp, hg, e1, e2, hf, ha, hn, if_true]) (callA_upd hd cx.T)).weak fun a h => h.imp (fun h => h.2) fun h => ⟨h.1, h.2.2⟩
    ·exact RunUpd.fail (fun KP K => by simp only [runOp, hg, hf, ha]; rw [if_neg hn]) (fun KP v K => by simp only [runOp, hg, e1, e2, hf, ha]; rw [if_neg hn])
theorem putV_upd {T : Nat → Option TI} {nt : Nat} {dst : Option Nat} {x : AV} {s : St} {d : Nat} (hd : dst ≠ some d) : UpdOk T True (putV nt dst x) dst s d := by
 cases dst with
 | none =>
  refine ⟨_, DemIn.id _, fun v => rfl, fun s1 hs => ?_⟩
  simp only [putV, Option.some.injEq] at hs
  subst hs
  exact ⟨fun t _ => (map_id' _).symm, fun _ t a => loadA_id T _ t a⟩
 | some d' =>
  have hdd : d' ≠ d := fun e => hd (by rw [e])
  by_cases hlt : Nat.blt d' nt = true
  ·refine ⟨_, DemIn.id _, fun v => ?_, fun s1 hs => ?_⟩
   ·simp only [putV]
    rw [if_pos hlt, if_pos hlt]
    simp only [Option.map_some, sU]
    rw [upd_comm hdd] <;> rfl
   ·simp only [putV] at hs
    rw [if_pos hlt] at hs
    simp only [Option.some.injEq] at hs
    subst hs
    refine ⟨fun t ht => ?_, fun _ t a => loadA_id T _ t a⟩
    rw [map_id']
    exact upd_ne (fun e => ht (by rw [e]))
  ·exact UpdOk.fail (by simp only [putV]; rw [if_neg hlt]) (fun v => by simp only [putV]; rw [if_neg hlt])
theorem runG_upd {eff : Bool} {ops : Array Oper} {o : Oper} {s : St} {d : Nat} (hx : operFree ops o d) (hd : o.dst ≠ some d) : RunUpd (fun s k => runG cx eff ops o s k) cx.T (bxB cx eff o s) o.dst s d := by
 have skip : RunUpd (fun (s : St) (k : Ex → St → Option R) => match putV cx.nt o.dst (.tup []) s with
   | some s' => k .normal s'
   | none => none) cx.T (bxB cx eff o s) o.dst s d :=
  (RunUpd.of_upd (F := putV cx.nt o.dst (.tup [])) (B := True) (fun KP s K => by cases putV cx.nt o.dst (.tup []) s <;> rfl) (fun _ h => putV_dp h) (putV_upd hd)).weak fun _ _ => trivial
 cases hg : o.guard with
 | none => exact RunUpd.congr (fun KP K => by simp only [runG, hg]) (fun KP v K => by simp only [runG, hg]) (runOp_upd (cx := cx) (eff := eff) hx hd)
 | some gw =>
  obtain ⟨g, want⟩ := gw
  have hgv : ∀ v, guardV ops (sU s d v).tm g = guardV ops s.tm g := fun v => guardV_upd fun g0 hg0 => hx.2 g want g0 hg hg0
  cases hv : guardV ops s.tm g with
  | none => exact RunUpd.fail (fun KP K => by simp only [runG, hg, hv]) (fun KP v K => by simp only [runG, hg, hgv, hv])
  | some b =>
   cases b with
   | none => exact RunUpd.congr (fun KP K => by (simp only [runG, hg, hv]) <;> rfl) (fun KP v K => by (simp only [runG, hg, hgv, hv]) <;> rfl) skip
   | some b =>
    by_cases hb : (b == want) = true
    ·exact RunUpd.congr (fun KP K => by simp only [runG, hg, hv, hb, if_true]) (fun KP v K => by simp only [runG, hg, hgv, hv, hb, if_true]) (runOp_upd (cx := cx) (eff := eff) hx hd)
    ·exact RunUpd.congr (fun KP K => by simp only [runG, hg, hv]; (rw [if_neg hb]) <;> rfl) (fun KP v K => by simp only [runG, hg, hgv, hv]; (rw [if_neg hb]) <;> rfl) skip
def isReader : Cl → Bool
 | .pure | .load => true
 | _ => false
def rdV (T : Nat → Option TI) (tm : Nat → Option AV) (bx : Nat → Nat → Option Box) : Op → Option AV
 | .load t p => match ev tm p with
  | some a => loadA T bx t a
  | none => none
 | op => opP T (ev tm) op
def valR (T : Nat → Option TI) (ops : Array Oper) (o : Oper) (s : St) : Option AV := match o.guard with
 | none => rdV T s.tm s.g.bx o.op
 | some (g, want) => match guardV ops s.tm g with
  | some (some b) => if b == want then rdV T s.tm s.g.bx o.op else some (.tup [])
  | some none => some (.tup [])
  | none => none
theorem reader_step {T : Nat → Option TI} {hint : Hint} {nt : Nat} {o : Oper} {d : Nat} (hc : isReader (clsOp o.op) = true) (hd : o.dst = some d) (s : St) : stepOp T hint nt o s = if Nat.blt d nt then (match rdV T s.tm s.g.bx o.op with
  | some v => some (sU s d v)
  | none => none) else none := by
 obtain ⟨dst, op, type, pos, aft, guard⟩ := o
 simp only at hc hd
 subst hd
 by_cases hlt : Nat.blt d nt = true
 case neg => rw [if_neg hlt]; simp only [stepOp]; rw [if_neg hlt]
 rw [if_pos hlt]
 cases op with
 | load t p =>
  simp only [stepOp, hlt, if_true, rdV]
  cases ev s.tm p with
  | none => rfl
  | some a => rfl
 | call c =>
  simp only [stepOp, hlt, if_true, rdV, opP]
  have hna : isAppend c.callee = false := by
   cases hcl : c.callee with
   | builtin b => cases b <;> simp_all [clsOp, isReader, isLen, isAppend]
   | _ => rfl
  simp only [callB, hna]
  rfl
 | alloc t => simp [clsOp, isReader] at hc
 | buildSlice t n ps => simp [clsOp, isReader] at hc
 | box t x => simp [clsOp, isReader] at hc
 | makeFunc f a b => simp [clsOp, isReader] at hc
 | _ => (simp only [stepOp, hlt, if_true, rdV]) <;> rfl
theorem reader_noCall {op : Op} (hc : isReader (clsOp op) = true) : goCall op = none := by
 cases h : goCall op with
 | none => rfl
 | some x => rw [goCall_cls h] at hc; cases hc
theorem reader_run {eff : Bool} {ops : Array Oper} {o : Oper} {d : Nat} (hc : isReader (clsOp o.op) = true) (hd : o.dst = some d) (s : St) (K : St → Option R) : runG cx eff ops o s (nrm KP K) = if Nat.blt d cx.nt then (match valR cx.T ops o s with
  | some v => K (sU s d v)
  | none => none) else none := by
 have hop : ∀ s, runOp cx eff o s (nrm KP K) = if Nat.blt d cx.nt then (match rdV cx.T s.tm s.g.bx o.op with
  | some v => K (sU s d v)
  | none => none) else none := by
  intro s
  simp only [runOp, reader_noCall hc]
  rw [reader_step hc hd]
  by_cases hlt : Nat.blt d cx.nt = true
  ·rw [if_pos hlt, if_pos hlt]
   cases rdV cx.T s.tm s.g.bx o.op <;> rfl
  ·rw [if_neg hlt, if_neg hlt]
 have hskip : (match putV cx.nt o.dst (.tup []) s with
   | some s' => nrm KP K .normal s'
   | none => none) = if Nat.blt d cx.nt then K (sU s d (.tup [])) else none := by
  rw [hd]
  simp only [putV]
  by_cases hlt : Nat.blt d cx.nt = true
  ·rw [if_pos hlt, if_pos hlt]; rfl
  ·rw [if_neg hlt, if_neg hlt]
 unfold runG valR
 cases hg : o.guard with
 | none => exact hop s
 | some gw =>
  obtain ⟨g, want⟩ := gw
  simp only
  cases hv : guardV ops s.tm g with
  | none => simp only; split <;> rfl
  | some b =>
   cases b with
   | none => exact hskip
   | some b =>
    simp only
    by_cases hb : (b == want) = true
    ·rw [if_pos hb, if_pos hb]; exact hop s
    ·rw [if_neg hb, if_neg hb]; exact hskip
theorem valR_dem {T : Nat → Option TI} {p : Pz} {ops : Array Oper} {o : Oper} {s s1 : St} (htm : ∀ t, t ∈ o.looksAt ops → s1.tm t = (s.tm t).map (demP p)) (hbx : clsOp o.op = .load → ∀ t a, (∃ q, o.op = .load t q ∧ ev s.tm q = some a) → loadA T s1.g.bx t (demP p a) = (loadA T s.g.bx t a).map (demP p)) :
  valR T ops o s1 = (valR T ops o s).map (demP p) := by
 have hev : ∀ x ∈ o.op.operands.toList, ev s1.tm x = (ev s.tm x).map (demP p) := fun x hx => ev_dem fun t e => htm t (by
  subst e
  exact List.mem_append_left _ (List.mem_filterMap.2 ⟨.tmp t, hx, rfl⟩))
 have hrd : rdV T s1.tm s1.g.bx o.op = (rdV T s.tm s.g.bx o.op).map (demP p) := by
  by_cases hl : clsOp o.op = .load
  ·cases hop : o.op with
   | load t q =>
    simp only [rdV]
    rw [hev q (by rw [hop]; simp [Op.operands])]
    cases hq : ev s.tm q with
    | none => rfl
    | some a =>
     simp only [Option.map_some]
     exact hbx hl t a ⟨q, hop, hq⟩
   | call c =>
    rw [hop] at hl
    simp only [clsOp] at hl
    repeat' (split at hl <;> try (cases hl; done))
    all_goals cases hl
   | _ => rw [hop] at hl; cases hl
  ·have : ∀ s : St, rdV T s.tm s.g.bx o.op = opP T (ev s.tm) o.op := by
    intro s
    cases hop : o.op with
    | load t q => rw [hop] at hl; exact absurd rfl hl
    | _ => rfl
   rw [this, this]
   exact opP_dem hev
 unfold valR
 cases hg : o.guard with
 | none => exact hrd
 | some gw =>
  obtain ⟨g, want⟩ := gw
  simp only
  rw [guardV_dem (p := p) (tm := s.tm) fun g0 t hg0 ht => htm t (List.mem_append_right _ (by simp [hg, hg0, ht]))]
  cases guardV ops s.tm g with
  | none => rfl
  | some b =>
   cases b with
   | none => simp [demP, demPs]
   | some b =>
    simp only
    split
    ·exact hrd
    ·simp [demP, demPs]
theorem swap_reader {eff eff' : Bool} {ops : Array Oper} {p o : Oper} {d : Nat} (hc : isReader (clsOp o.op) = true) (hd : o.dst = some d) (hap : Oper.apart ops p o = true) (s : St) (hl : ∀ t q a, o.op = .load t q → ev s.tm q = some a → bxB cx eff p s a) (K : St → Option R) {v : AV} (hv : valR cx.T ops o s = some v) (hlt : Nat.blt d cx.nt = true) : runG cx eff ops p (sU s d v) (nrm KP K) = runG cx eff ops p s (nrm KP fun s1 => runG cx eff' ops o s1 (nrm KP K)) := by
 obtain ⟨a1, a2, a3⟩ := Oper.apart_spec hap
 obtain ⟨φ, h1, h2, h3⟩ := runG_upd (cx := cx) (eff := eff) (s := s) (operFree_of (a3 d hd)) (fun e => a2 d e hd)
 have h2' := h2 KP v K
 simp only at h2'
 rw [h2']
 refine h3 KP _ _ fun s1 q1 q2 => ?_
 rw [reader_run hc hd, if_pos hlt]
 obtain ⟨p', rfl⟩ := h1
 rw [valR_dem (p := p') (s := s) (fun t ht => q1 t (fun e => a1 t e ht)) (fun hll t a ha => by obtain ⟨q, hq1, hq2⟩ := ha; exact (q2 a (hl t q a hq1 hq2)).2 t), hv]
 rfl
end
end Go.Abs
namespace Go.Abs
open Go
set_option linter.unusedVariables false
set_option linter.unusedSimpArgs false
set_option linter.unnecessarySimpa false
set_option linter.unusedSectionVars false
variable [Tabs]
section
variable {R : Type} (cx : Cx R)
def actO (o : Oper) (s : St) : Option St := match goCall o.op with
 | some (f, args) => match ev s.tm f, evs s.tm args with
  | some (.d (.fn fn caps)), some as => if as.all noTup then (match AV.datas as with
   | some ds => match cx.C fn (ds ++ caps) with
    | some (.ret rs) => putRes cx.nt o.dst rs s
    | _ => none
   | none => none) else none
  | _, _ => none
 | none => stepOp cx.T cx.hint cx.nt o s
def actG (ops : Array Oper) (o : Oper) (s : St) : Option St := match o.guard with
 | none => actO cx o s
 | some (g, want) => match guardV ops s.tm g with
  | some (some b) => if b == want then actO cx o s else putV cx.nt o.dst (.tup []) s
  | some none => putV cx.nt o.dst (.tup []) s
  | none => none
variable {cx}
theorem actO_run {o : Oper} {s : St} {K : St → Option R} : runOp cx false o s (nrm noP K) = match actO cx o s with
  | some s' => K s'
  | none => none := by
 unfold runOp actO
 cases hg : goCall o.op with
 | none =>
  simp only
  cases stepOp cx.T cx.hint cx.nt o s <;> rfl
 | some fa =>
  obtain ⟨f, args⟩ := fa
  simp only
  cases ev s.tm f with
  | none => rfl
  | some fv =>
   cases evs s.tm args with
   | none =>
    cases fv with
    | d x => cases x <;> rfl
    | _ => rfl
   | some as =>
    simp only
    by_cases hn : as.all noTup = true
    ·rw [if_pos hn]
     cases fv with
     | d x =>
      cases x with
      | fn fn caps =>
       simp only [callA, hn, if_true]
       cases AV.datas as with
       | none => simp
       | some ds =>
        simp only
        cases cx.C fn (ds ++ caps) with
        | none => rfl
        | some out =>
         cases out with
         | pan x => rfl
         | ret rs =>
          simp only
          cases putRes cx.nt o.dst rs s <;> rfl
      | _ => simp [callA]
     | _ => simp [callA]
    ·rw [if_neg hn]
     cases fv with
     | d x =>
      cases x with
      | fn fn caps => simp only; rw [if_neg hn]
      | _ => rfl
     | _ => rfl
theorem act_run {ops : Array Oper} {o : Oper} {s : St} {K : St → Option R} : runG cx false ops o s (nrm noP K) = match actG cx ops o s with
  | some s' => K s'
  | none => none := by
 have skip : (match putV cx.nt o.dst (.tup []) s with
   | some s' => nrm noP K .normal s'
   | none => none) = match putV cx.nt o.dst (.tup []) s with
   | some s' => K s'
   | none => none := by cases putV cx.nt o.dst (.tup []) s <;> rfl
 unfold runG actG
 cases o.guard with
 | none => exact actO_run
 | some gw =>
  obtain ⟨g, want⟩ := gw
  simp only
  cases guardV ops s.tm g with
  | none => rfl
  | some b =>
   cases b with
   | none => exact skip
   | some b =>
    simp only
    by_cases hb : (b == want) = true
    ·rw [if_pos hb, if_pos hb]; exact actO_run
    ·rw [if_neg hb, if_neg hb]; exact skip
theorem actO_upd {ops : Array Oper} {o : Oper} {s : St} {d : Nat} (hx : operFree ops o d) (hd : o.dst ≠ some d) : UpdOk cx.T (keepsBx (clsOp o.op) = true) (actO cx o) o.dst s d := by
 cases hg : goCall o.op with
 | none => exact UpdOk.congr (g := stepOp cx.T cx.hint cx.nt o) (by simp only [actO, hg]) (fun v => by simp only [actO, hg]) (stepOp_upd hx.1 hd)
 | some fa =>
  obtain ⟨f, args⟩ := fa
  obtain ⟨q1, q2⟩ := goCall_ops hg
  have e1 : ∀ v, ev (sU s d v).tm f = ev s.tm f := fun v => ev_upd (hx.1 f q1)
  have e2 : ∀ v, evs (sU s d v).tm args = evs s.tm args := fun v => evs_upd fun x h => hx.1 x (q2 x h)
  cases hf : ev s.tm f with
  | none => exact UpdOk.fail (by simp only [actO, hg, hf]) (fun v => by simp only [actO, hg, e1, hf])
  | some fv =>
   cases ha : evs s.tm args with
   | none => exact UpdOk.fail (by simp only [actO, hg, hf, ha]) (fun v => by simp only [actO, hg, e1, e2, hf, ha])
   | some as =>
    cases fv with
    | d x =>
     cases x with
     | fn fn caps =>
      by_cases hn : as.all noTup = true
      ·cases hds : AV.datas as with
       | none => exact UpdOk.fail (by simp only [actO, hg, hf, ha, hn, hds, if_true]) (fun v => by simp only [actO, hg, e1, e2, hf, ha, hn, hds, if_true])
       | some ds =>
        cases hc : cx.C fn (ds ++ caps) with
        | none => exact UpdOk.fail (by simp only [actO, hg, hf, ha, hn, hds, hc, if_true]) (fun v => by simp only [actO, hg, e1, e2, hf, ha, hn, hds, hc, if_true])
        | some out =>
         cases out with
         | pan x => exact UpdOk.fail (by simp only [actO, hg, hf, ha, hn, hds, hc, if_true]) (fun v => by simp only [actO, hg, e1, e2, hf, ha, hn, hds, hc, if_true])
         | ret rs => exact (UpdOk.congr (g := putRes cx.nt o.dst rs) (by simp only [actO, hg, hf, ha, hn, hds, hc, if_true]) (fun v => by simp only [actO, hg, e1, e2, hf, ha, hn, hds, hc, if_true]) (putRes_upd hd)).weak fun _ => trivial
      ·exact UpdOk.fail (by simp only [actO, hg, hf, ha]; rw [if_neg hn]) (fun v => by simp only [actO, hg, e1, e2, hf, ha]; rw [if_neg hn])
     | _ => exact UpdOk.fail (by simp only [actO, hg, hf, ha]) (fun v => by simp only [actO, hg, e1, e2, hf, ha])
    | _ => exact UpdOk.fail (by simp only [actO, hg, hf, ha]) (fun v => by simp only [actO, hg, e1, e2, hf, ha])
theorem actG_upd {ops : Array Oper} {o : Oper} {s : St} {d : Nat} (hx : operFree ops o d) (hd : o.dst ≠ some d) : UpdOk cx.T (keepsBx (clsOp o.op) = true) (actG cx ops o) o.dst s d := by
 have skip := (putV_upd (T := cx.T) (nt := cx.nt) (x := .tup []) (s := s) hd).weak (B' := keepsBx (clsOp o.op) = true) fun _ => trivial
 cases hg : o.guard with
 | none => exact UpdOk.congr (g := actO cx o) (by simp only [actG, hg]) (fun v => by simp only [actG, hg]) (actO_upd hx hd)
 | some gw =>
  obtain ⟨g, want⟩ := gw
  have hgv : ∀ v, guardV ops (sU s d v).tm g = guardV ops s.tm g := fun v => guardV_upd fun g0 hg0 => hx.2 g want g0 hg hg0
  cases hv : guardV ops s.tm g with
  | none => exact UpdOk.fail (by simp only [actG, hg, hv]) (fun v => by simp only [actG, hg, hgv, hv])
  | some b =>
   cases b with
   | none => exact UpdOk.congr (g := putV cx.nt o.dst (.tup [])) (by simp only [actG, hg, hv]) (fun v => by simp only [actG, hg, hgv, hv]) skip
   | some b =>
    by_cases hb : (b == want) = true
    ·exact UpdOk.congr (g := actO cx o) (by simp only [actG, hg, hv, hb, if_true]) (fun v => by simp only [actG, hg, hgv, hv, hb, if_true]) (actO_upd hx hd)
    ·exact UpdOk.congr (g := putV cx.nt o.dst (.tup [])) (by simp only [actG, hg, hv]; rw [if_neg hb]) (fun v => by simp only [actG, hg, hgv, hv]; rw [if_neg hb]) skip
structure Shift (σ : St → St) (X : St → Option St) (s : St) : Prop where
 eq : X (σ s) = (X s).map σ
def insB (dp da : Nat) (b : Box) (s : St) : St := { tm := s.tm, fr := s.fr, g := { s.g with bx := fun d u => if Nat.beq d dp && Nat.beq u da then some b else s.g.bx d u } }
def frS (d1 : Nat) (s : St) : St := { tm := s.tm, fr := setFr s.fr d1, g := s.g }
theorem putOwn_ins {dp da : Nat} {b : Box} {k : Option Nat} {dst sz : Nat} {es : List (List D)} {s : St} : putOwn k dst sz es (insB dp da b s) = (putOwn k dst sz es s).map (insB dp da b) := by
 unfold putOwn
 have hfr : (insB dp da b s).fr dst = s.fr dst := rfl
 rw [hfr]
 split <;> rfl
theorem demSt_ins {dp da : Nat} {b : Box} (i : Id) (hb : dems i b.cells = b.cells) (s : St) : demSt i (insB dp da b s) = insB dp da b (demSt i s) := by
 unfold demSt insB
 simp only [St.mk.injEq, G.mk.injEq, true_and, and_true]
 funext d u
 unfold demBx
 dsimp only
 by_cases h : (Nat.beq d dp && Nat.beq u da) = true
 ·rw [if_pos h, if_pos h]
  simp only [hb]
 ·rw [if_neg h, if_neg h]
theorem dems_d (i : Id) : ∀ xs : List D, dems i (xs.map .d) = xs.map .d
 | [] => rfl
 | x :: xs => by simp only [List.map_cons, dems, dem]; rw [dems_d i xs]
variable {T : Nat → Option TI}
theorem buildSliceA_ins {dp da : Nat} {b : Box} {dst t n : Nat} {parts : List (Nat × Operand)} {s : St} : buildSliceA T dst t n parts (insB dp da b s) = (buildSliceA T dst t n parts s).map (insB dp da b) := by
 unfold buildSliceA
 have htm : (insB dp da b s).tm = s.tm := rfl
 rw [htm]
 repeat' split
 all_goals first | rfl | exact putOwn_ins
theorem appendA_ins {dp da : Nat} {b : Box} (hb : ∀ i, dems i b.cells = b.cells) {rw' : Bool} {dst : Nat} {t t2 : TI} {x y : Operand} {s : St} : appendA T rw' dst t t2 x y (insB dp da b s) = (appendA T rw' dst t t2 x y s).map (insB dp da b) := by
 unfold appendA
 have htm : (insB dp da b s).tm = s.tm := rfl
 rw [htm]
 repeat' split
 all_goals first
  | rfl
  | exact putOwn_ins
  | (rw [demSt_ins _ (hb _)]; exact putOwn_ins)
theorem putRes_ins {dp da : Nat} {b : Box} {nt : Nat} {dst : Option Nat} {rs : List AV} {s : St} : putRes nt dst rs (insB dp da b s) = (putRes nt dst rs s).map (insB dp da b) := by
 cases dst with
 | none => rfl
 | some d =>
  simp only [putRes]
  have hfr : (insB dp da b s).fr d = s.fr d := rfl
  rw [hfr]
  by_cases h1 : s.fr d = true
  ·rw [if_pos h1, if_pos h1]; rfl
  ·rw [if_neg h1, if_neg h1]
   by_cases h2 : Nat.blt d nt = true
   ·rw [if_pos h2, if_pos h2]; rfl
   ·rw [if_neg h2, if_neg h2]; rfl
theorem putV_ins {dp da : Nat} {b : Box} {nt : Nat} {dst : Option Nat} {x : AV} {s : St} : putV nt dst x (insB dp da b s) = (putV nt dst x s).map (insB dp da b) := by
 cases dst with
 | none => rfl
 | some d =>
  simp only [putV]
  by_cases h2 : Nat.blt d nt = true
  ·rw [if_pos h2, if_pos h2]; rfl
  ·rw [if_neg h2, if_neg h2]; rfl
def rowCls : Cl → Bool
 | .build | .app | .call => true
 | _ => false
theorem actG_ins {ops : Array Oper} {dp da : Nat} {b : Box} (hb : ∀ i, dems i b.cells = b.cells) {o : Oper} (hc : rowCls (clsOp o.op) = true) {s : St} : actG cx ops o (insB dp da b s) = (actG cx ops o s).map (insB dp da b) := by
 have htm : (insB dp da b s).tm = s.tm := rfl
 have hO : actO cx o (insB dp da b s) = (actO cx o s).map (insB dp da b) := by
  unfold actO
  rw [htm]
  cases hg : goCall o.op with
  | some fa =>
   obtain ⟨f, args⟩ := fa
   simp only
   repeat' split
   all_goals first | rfl | exact putRes_ins
  | none =>
   simp only
   obtain ⟨dst, op, type, pos, aft, guard⟩ := o
   simp only at hc hg ⊢
   cases dst with
   | none =>
    simp only [stepOp]
    split
    ·simp [clsOp, rowCls] at hc
    ·rfl
   | some d =>
    simp only [stepOp]
    by_cases hlt : Nat.blt d cx.nt = true
    case neg => rw [if_neg hlt, if_neg hlt]; rfl
    rw [if_pos hlt, if_pos hlt]
    cases op with
    | buildSlice t n ps => exact buildSliceA_ins
    | call c =>
     simp only [callB]
     have happ : isAppend c.callee = true := by
      cases hcl : c.callee with
      | value f => simp [goCall, hcl] at hg
      | builtin b => cases b <;> simp_all [clsOp, rowCls, isLen, isAppend]
      | invoke r n => simp [clsOp, hcl, isLen, isAppend, rowCls] at hc
     rw [if_pos happ, if_pos happ]
     repeat' split
     all_goals first | rfl | exact appendA_ins hb
    | alloc t => simp [clsOp, rowCls] at hc
    | load t p => simp [clsOp, rowCls] at hc
    | box t x => simp [clsOp, rowCls] at hc
    | makeFunc f a b => simp [clsOp, rowCls] at hc
    | _ => simp [clsOp, rowCls] at hc
 unfold actG
 rw [htm]
 repeat' split
 all_goals first
  | rfl
  | exact hO
  | exact putV_ins
theorem actG_bx {ops : Array Oper} {o : Oper} (hc : rowCls (clsOp o.op) = true) {s s1 : St} (hs : actG cx ops o s = some s1) : s1.g.dp = s.g.dp ∧ ∀ d u, (s1.g.bx d u).isSome = (s.g.bx d u).isSome := by
 have own : ∀ {k : Option Nat} {dst sz : Nat} {es : List (List D)} {s s1 : St}, putOwn k dst sz es s = some s1 → s1.g = s.g := fun h => putOwn_g h
 have res : ∀ {nt : Nat} {dst : Option Nat} {rs : List AV} {s s1 : St}, putRes nt dst rs s = some s1 → s1.g = s.g := by
  intro nt dst rs s s1 h
  unfold putRes at h
  repeat' (split at h <;> try (cases h; done))
  all_goals (cases h; rfl)
 have pv : ∀ {nt : Nat} {dst : Option Nat} {x : AV} {s s1 : St}, putV nt dst x s = some s1 → s1.g = s.g := by
  intro nt dst x s s1 h
  unfold putV at h
  repeat' (split at h <;> try (cases h; done))
  all_goals (cases h; rfl)
 have same : ∀ {s s1 : St}, s1.g = s.g → s1.g.dp = s.g.dp ∧ ∀ d u, (s1.g.bx d u).isSome = (s.g.bx d u).isSome := fun h => by rw [h]; exact ⟨rfl, fun _ _ => rfl⟩
 have hO : ∀ {s1}, actO cx o s = some s1 → s1.g.dp = s.g.dp ∧ ∀ d u, (s1.g.bx d u).isSome = (s.g.bx d u).isSome := by
  intro s1 hs
  unfold actO at hs
  cases hg : goCall o.op with
  | some fa =>
   simp only [hg] at hs
   repeat' (split at hs <;> try (cases hs; done))
   all_goals exact same (res hs)
  | none =>
   simp only [hg] at hs
   obtain ⟨dst, op, type, pos, aft, guard⟩ := o
   simp only at hc hg hs
   cases dst with
   | none =>
    simp only [stepOp] at hs
    split at hs
    ·simp [clsOp, rowCls] at hc
    ·cases hs
   | some d =>
    simp only [stepOp] at hs
    split at hs
    case isFalse => cases hs
    cases op with
    | buildSlice t n ps =>
     simp only [buildSliceA] at hs
     repeat' (split at hs <;> try (cases hs; done))
     exact same (own hs)
    | call c =>
     simp only [callB] at hs
     have happ : isAppend c.callee = true := by
      cases hcl : c.callee with
      | value f => simp [goCall, hcl] at hg
      | builtin b => cases b <;> simp_all [clsOp, rowCls, isLen, isAppend]
      | invoke r n => simp [clsOp, hcl, isLen, isAppend, rowCls] at hc
     rw [if_pos happ] at hs
     unfold appendA at hs
     repeat' (split at hs <;> try (cases hs; done))
     all_goals first
      | exact same (own hs)
      | (have := own hs; rw [this]; exact ⟨rfl, fun d u => demBx_isSome _ _ _ _⟩)
    | alloc t => simp [clsOp, rowCls] at hc
    | load t p => simp [clsOp, rowCls] at hc
    | box t x => simp [clsOp, rowCls] at hc
    | makeFunc f a b => simp [clsOp, rowCls] at hc
    | _ => simp [clsOp, rowCls] at hc
 unfold actG at hs
 repeat' (split at hs <;> try (cases hs; done))
 all_goals first
  | exact hO hs
  | exact same (pv hs)
end
end Go.Abs
namespace Go.Abs
open Go
set_option linter.unusedVariables false
set_option linter.unusedSimpArgs false
set_option linter.unnecessarySimpa false
set_option linter.unusedSectionVars false
variable [Tabs]
section
variable {R : Type} {cx : Cx R}
def gst (ops : Array Oper) (o : Oper) (tm : Nat → Option AV) : Option Bool := match o.guard with
 | none => some true
 | some (g, want) => match guardV ops tm g with
  | some (some b) => some (b == want)
  | some none => some false
  | none => none
theorem actG_gst (ops : Array Oper) (o : Oper) (s : St) : actG cx ops o s = match gst ops o s.tm with
  | some true => actO cx o s
  | some false => putV cx.nt o.dst (.tup []) s
  | none => none := by
 unfold actG gst
 cases o.guard with
 | none => rfl
 | some gw =>
  obtain ⟨g, want⟩ := gw
  simp only
  cases guardV ops s.tm g with
  | none => rfl
  | some b =>
   cases b with
   | none => rfl
   | some b =>
    simp only
    cases hb : (b == want) <;> simp
theorem gst_dem {p : Pz} {ops : Array Oper} {o : Oper} {tm tm' : Nat → Option AV} (h : ∀ t ∈ o.looksAt ops, tm' t = (tm t).map (demP p)) : gst ops o tm' = gst ops o tm := by
 unfold gst
 cases hg : o.guard with
 | none => rfl
 | some gw =>
  obtain ⟨g, want⟩ := gw
  simp only
  rw [guardV_dem (p := p) (tm := tm) fun g0 t hg0 ht => h t (List.mem_append_right _ (by simp [hg, hg0, ht]))]
theorem putV_some {nt da : Nat} {x : AV} {s : St} : putV nt (some da) x s = if Nat.blt da nt then some (sU s da x) else none := rfl
theorem sU_comm {s : St} {a b : Nat} {x y : AV} (h : a ≠ b) : sU (sU s a x) b y = sU (sU s b y) a x := by
 unfold sU
 simp only [St.mk.injEq, and_true]
 exact upd_comm h
theorem allocA_eq {T : Nat → Option TI} {da t : Nat} {s : St} : allocA T da t s = match T t, s.g.bx s.g.dp da with
  | some ti, none => some (sU (insB s.g.dp da { cells := ti.zero.map .d, frz := false, ty := ti.mark } s) da (.ptr s.g.dp da 0))
  | _, _ => none := by
 unfold allocA
 cases T t with
 | none => rfl
 | some ti =>
  cases s.g.bx s.g.dp da <;> rfl
theorem alloc_actO {p : Oper} {t da : Nat} (hp : p.op = .alloc t) (hd : p.dst = some da) (s : St) : actO cx p s = if Nat.blt da cx.nt then allocA cx.T da t s else none := by
 obtain ⟨dst, op, type, pos, aft, guard⟩ := p
 simp only at hp hd
 subst hp hd
 rfl
theorem swap_alloc {ops : Array Oper} {p X : Oper} {t da : Nat} (hp : p.op = .alloc t) (hd : p.dst = some da) (hc : rowCls (clsOp X.op) = true) (hap : Oper.apart ops p X = true) (s : St) :
  (actG cx ops p s).bind (actG cx ops X) = (actG cx ops X s).bind (actG cx ops p) := by
 obtain ⟨a1, a2, a3⟩ := Oper.apart_spec hap
 have hfree := operFree_of (a1 da hd)
 have hne : X.dst ≠ some da := a2 da hd
 obtain ⟨φ, ⟨p', rfl, _⟩, h2, h3⟩ := actG_upd (cx := cx) (s := s) hfree hne
 have hg : ∀ s1, actG cx ops X s = some s1 → gst ops p s1.tm = gst ops p s.tm := fun s1 hs1 =>
  gst_dem (p := p') fun t ht => (h3 s1 hs1).1 t fun e => a3 t e ht
 rw [actG_gst ops p s]
 cases hgs : gst ops p s.tm with
 | none =>
  cases hX : actG cx ops X s with
  | none => rfl
  | some s1 => simp only [Option.bind_none, Option.bind_some]; rw [actG_gst, hg s1 hX, hgs]
 | some b =>
  cases b with
  | false =>
   rw [hd]
   simp only [putV_some]
   by_cases hlt : Nat.blt da cx.nt = true
   ·rw [if_pos hlt, Option.bind_some, h2]
    cases hX : actG cx ops X s with
    | none => rfl
    | some s1 =>
     simp only [Option.map_some, Option.bind_some, demP, demPs]
     rw [actG_gst, hg s1 hX, hgs]
     simp only [hd, putV_some]
     rw [if_pos hlt]
   ·rw [if_neg hlt]
    cases hX : actG cx ops X s with
    | none => rfl
    | some s1 =>
     simp only [Option.bind_some, Option.bind_none]
     rw [actG_gst, hg s1 hX, hgs]
     simp only [hd, putV_some]
     rw [if_neg hlt]
  | true =>
   simp only
   rw [alloc_actO hp hd]
   by_cases hlt : Nat.blt da cx.nt = true
   case neg =>
    rw [if_neg hlt]
    cases hX : actG cx ops X s with
    | none => rfl
    | some s1 =>
     simp only [Option.bind_some, Option.bind_none]
     rw [actG_gst, hg s1 hX, hgs]
     simp only
     rw [alloc_actO hp hd, if_neg hlt]
   rw [if_pos hlt, allocA_eq]
   cases hT : cx.T t with
   | none =>
    cases hX : actG cx ops X s with
    | none => rfl
    | some s1 =>
     simp only [Option.bind_some, Option.bind_none]
     rw [actG_gst, hg s1 hX, hgs]
     simp only
     rw [alloc_actO hp hd, if_pos hlt, allocA_eq, hT]
   | some ti =>
    cases hb : s.g.bx s.g.dp da with
    | some b =>
     cases hX : actG cx ops X s with
     | none => rfl
     | some s1 =>
      obtain ⟨g1, g2⟩ := actG_bx hc hX
      simp only [Option.bind_some, Option.bind_none]
      rw [actG_gst, hg s1 hX, hgs]
      simp only
      rw [alloc_actO hp hd, if_pos hlt, allocA_eq, hT, g1]
      have := g2 s.g.dp da
      rw [hb] at this
      obtain ⟨b', hb'⟩ := Option.isSome_iff_exists.1 this
      rw [hb']
    | none =>
     simp only [Option.bind_some]
     obtain ⟨φ', ⟨p2, rfl, _⟩, k2, _⟩ := actG_upd (cx := cx) (s := insB s.g.dp da { cells := ti.zero.map .d, frz := false, ty := ti.mark } s) hfree hne
     rw [k2, actG_ins (fun i => dems_d i _) hc]
     cases hX : actG cx ops X s with
     | none => rfl
     | some s1 =>
      obtain ⟨g1, g2⟩ := actG_bx hc hX
      simp only [Option.bind_some, Option.map_some]
      rw [actG_gst, hg s1 hX, hgs]
      simp only
      rw [alloc_actO hp hd, if_pos hlt, allocA_eq, hT, g1]
      have := g2 s.g.dp da
      rw [hb] at this
      rw [Option.isSome_eq_false_iff.1 this |> Option.isNone_iff_eq_none.1]
      simp [demP]
def bV (T : Nat → Option TI) (t n : Nat) (parts : List (Nat × Operand)) (tm : Nat → Option AV) : Option (Nat × List (List D)) := match T t with
 | none => none
 | some ti => match ti.kind, T ti.elem with
  | 2, some te => match partCells te.size (ev tm) parts (List.replicate n te.zero) with
   | some es => if Nat.ble (n * te.size) 16777216 && Nat.ble 1 te.size then some (te.size, es.map (nrmC te.sls)) else none
   | none => none
  | _, _ => none
theorem buildSliceA_bV {T : Nat → Option TI} {dst t n : Nat} {parts : List (Nat × Operand)} {s : St} : buildSliceA T dst t n parts s = match bV T t n parts s.tm with
  | some (sz, es) => putOwn none dst sz es s
  | none => none := by
 unfold buildSliceA bV
 cases T t with
 | none => rfl
 | some ti =>
  simp only
  generalize ti.kind = kk
  cases T ti.elem with
  | none => rcases kk with _ | _ | _ | kk <;> rfl
  | some te =>
   rcases kk with _ | _ | _ | kk
   ·rfl
   ·rfl
   ·simp only
    cases partCells te.size (ev s.tm) parts (List.replicate n te.zero) with
    | none => rfl
    | some es =>
     simp only
     split <;> rfl
   ·rfl
theorem bV_dem {T : Nat → Option TI} {p : Pz} {t n : Nat} {parts : List (Nat × Operand)} {tm tm' : Nat → Option AV} (h : ∀ q ∈ parts, ∀ u, q.2 = .tmp u → tm' u = (tm u).map (demP p)) : bV T t n parts tm' = bV T t n parts tm := by
 unfold bV
 have : ∀ sz es, partCells sz (ev tm') parts es = partCells sz (ev tm) parts es := fun sz es => partCells_dem (p := p) fun q hq => ev_dem fun u e => h q hq u e
 simp only [this]
theorem build_actO {p : Oper} {t n d1 : Nat} {parts : Array (Nat × Operand)} (hp : p.op = .buildSlice t n parts) (hd : p.dst = some d1) (s : St) : actO cx p s = if Nat.blt d1 cx.nt then (match bV cx.T t n parts.toList s.tm with
  | some (sz, es) => putOwn none d1 sz es s
  | none => none) else none := by
 obtain ⟨dst, op, type, pos, aft, guard⟩ := p
 simp only at hp hd
 subst hp hd
 have : actO cx { dst := some d1, op := .buildSlice t n parts, type, pos, after := aft, guard } s = if Nat.blt d1 cx.nt then buildSliceA cx.T d1 t n parts.toList s else none := rfl
 rw [this, buildSliceA_bV]
theorem putOwn_eq {d1 sz : Nat} {es : List (List D)} {s : St} : putOwn none d1 sz es s = if s.fr d1 then none else some (sU (frS d1 s) d1 (.own (.tmp s.g.dp d1 0) sz es)) := rfl
theorem setFr_comm (fr : Nat → Bool) (a b : Nat) : setFr (setFr fr a) b = setFr (setFr fr b) a := by
 funext t
 unfold setFr
 cases Nat.beq t a <;> cases Nat.beq t b <;> rfl
theorem putOwn_fr {k : Option Nat} {d1 dst sz : Nat} {es : List (List D)} {s : St} (h : dst ≠ d1) : putOwn k dst sz es (frS d1 s) = (putOwn k dst sz es s).map (frS d1) := by
 unfold putOwn
 have hfr : (frS d1 s).fr dst = s.fr dst := by
  show (Nat.beq dst d1 || s.fr dst) = _
  have : Nat.beq dst d1 = false := Bool.eq_false_iff.2 (by simpa using h)
  rw [this]; rfl
 rw [hfr]
 split
 ·rfl
 ·simp only [Option.map_some, frS]
  rw [setFr_comm]
theorem demSt_fr' (i : Id) (d1 : Nat) (s : St) : demSt i (frS d1 s) = frS d1 (demSt i s) := rfl
def newCls : Cl → Bool
 | .build | .app => true
 | _ => false
theorem newCls_row {c : Cl} (h : newCls c = true) : rowCls c = true := by cases c <;> simp_all [newCls, rowCls]
theorem new_noCall {op : Op} (hc : newCls (clsOp op) = true) : goCall op = none := by
 cases h : goCall op with
 | none => rfl
 | some x => rw [goCall_cls h] at hc; cases hc
theorem new_app {c : Call} (hc : newCls (clsOp (.call c)) = true) : isAppend c.callee = true := by
 cases hcl : c.callee with
 | value f => simp [clsOp, hcl, newCls] at hc
 | builtin b => cases b <;> simp_all [clsOp, newCls, isLen, isAppend]
 | invoke r n => simp [clsOp, hcl, isLen, isAppend, newCls] at hc
theorem actG_frS {ops : Array Oper} {d1 : Nat} {o : Oper} (hc : newCls (clsOp o.op) = true) (hne : o.dst ≠ some d1) {s : St} : actG cx ops o (frS d1 s) = (actG cx ops o s).map (frS d1) := by
 have hO : actO cx o (frS d1 s) = (actO cx o s).map (frS d1) := by
  unfold actO
  rw [new_noCall hc]
  simp only
  obtain ⟨dst, op, type, pos, aft, guard⟩ := o
  simp only at hc hne ⊢
  cases dst with
  | none =>
   simp only [stepOp]
   split
   ·simp [clsOp, newCls] at hc
   ·rfl
  | some d =>
   have hdd : d ≠ d1 := fun e => hne (by rw [e])
   simp only [stepOp]
   by_cases hlt : Nat.blt d cx.nt = true
   case neg => rw [if_neg hlt, if_neg hlt]; rfl
   rw [if_pos hlt, if_pos hlt]
   cases op with
   | buildSlice t n ps =>
    simp only
    rw [buildSliceA_bV, buildSliceA_bV]
    have : (frS d1 s).tm = s.tm := rfl
    rw [this]
    cases bV cx.T t n ps.toList s.tm with
    | none => rfl
    | some x => exact putOwn_fr hdd
   | call c =>
    simp only [callB]
    rw [if_pos (new_app hc), if_pos (new_app hc)]
    unfold appendA
    have : (frS d1 s).tm = s.tm := rfl
    rw [this]
    repeat' split
    all_goals first
     | rfl
     | exact putOwn_fr hdd
     | (rw [demSt_fr']; exact putOwn_fr hdd)
   | alloc t => simp [clsOp, newCls] at hc
   | load t p => simp [clsOp, newCls] at hc
   | box t x => simp [clsOp, newCls] at hc
   | makeFunc f a b => simp [clsOp, newCls] at hc
   | _ => simp [clsOp, newCls] at hc
 have htm : (frS d1 s).tm = s.tm := rfl
 rw [actG_gst, actG_gst, htm]
 cases gst ops o s.tm with
 | none => rfl
 | some b =>
  cases b with
  | true => exact hO
  | false =>
   simp only
   cases o.dst with
   | none => rfl
   | some d =>
    simp only [putV_some]
    split <;> rfl
theorem actG_fr {ops : Array Oper} {d1 : Nat} {o : Oper} (hc : newCls (clsOp o.op) = true) (hne : o.dst ≠ some d1) {s s1 : St} (hs : actG cx ops o s = some s1) : s1.fr d1 = s.fr d1 := by
 have own : ∀ {k : Option Nat} {d sz : Nat} {es : List (List D)} {s s1 : St}, d ≠ d1 → putOwn k d sz es s = some s1 → s1.fr d1 = s.fr d1 := by
  intro k d sz es s s1 hdd h
  unfold putOwn at h
  split at h
  ·cases h
  ·cases h
   show (Nat.beq d1 d || s.fr d1) = _
   have : Nat.beq d1 d = false := Bool.eq_false_iff.2 (by simpa using Ne.symm hdd)
   rw [this]; rfl
 rw [actG_gst] at hs
 cases hgs : gst ops o s.tm with
 | none => simp [hgs] at hs
 | some b =>
  cases b with
  | false =>
   simp only [hgs] at hs
   unfold putV at hs
   repeat' (split at hs <;> try (cases hs; done))
   all_goals (cases hs; rfl)
  | true =>
   simp only [hgs] at hs
   unfold actO at hs
   rw [new_noCall hc] at hs
   simp only at hs
   obtain ⟨dst, op, type, pos, aft, guard⟩ := o
   simp only at hc hne hs
   cases dst with
   | none =>
    simp only [stepOp] at hs
    split at hs
    ·simp [clsOp, newCls] at hc
    ·cases hs
   | some d =>
    have hdd : d ≠ d1 := fun e => hne (by rw [e])
    simp only [stepOp] at hs
    split at hs
    case isFalse => cases hs
    cases op with
    | buildSlice t n ps =>
     simp only at hs
     rw [buildSliceA_bV] at hs
     cases hb : bV cx.T t n ps.toList s.tm with
     | none => simp [hb] at hs
     | some x => simp only [hb] at hs; exact own hdd hs
    | call c =>
     simp only [callB] at hs
     rw [if_pos (new_app hc)] at hs
     unfold appendA at hs
     repeat' (split at hs <;> try (cases hs; done))
     all_goals first
      | exact own hdd hs
      | exact own (s := demSt _ s) hdd hs
    | alloc t => simp [clsOp, newCls] at hc
    | load t p => simp [clsOp, newCls] at hc
    | box t x => simp [clsOp, newCls] at hc
    | makeFunc f a b => simp [clsOp, newCls] at hc
    | _ => simp [clsOp, newCls] at hc
def WFown (s : St) : Prop := ∀ t a t' k, s.tm t = some a → ownId a = some (.tmp s.g.dp t' k) → s.fr t' = true
theorem swap_build {ops : Array Oper} {p X : Oper} {t n d1 : Nat} {parts : Array (Nat × Operand)} (hp : p.op = .buildSlice t n parts) (hd : p.dst = some d1) (hc : newCls (clsOp X.op) = true) (hap : Oper.apart ops p X = true) (s : St) (hwf : WFown s) :
  (actG cx ops p s).bind (actG cx ops X) = (actG cx ops X s).bind (actG cx ops p) := by
 obtain ⟨a1, a2, a3⟩ := Oper.apart_spec hap
 have hfree := operFree_of (a1 d1 hd)
 have hne : X.dst ≠ some d1 := a2 d1 hd
 obtain ⟨φ, ⟨p', rfl, _⟩, h2, h3⟩ := actG_upd (cx := cx) (s := s) hfree hne
 have hg : ∀ s1, actG cx ops X s = some s1 → gst ops p s1.tm = gst ops p s.tm := fun s1 hs1 =>
  gst_dem (p := p') fun t ht => (h3 s1 hs1).1 t fun e => a3 t e ht
 have hbv : ∀ s1, actG cx ops X s = some s1 → bV cx.T t n parts.toList s1.tm = bV cx.T t n parts.toList s.tm := fun s1 hs1 =>
  bV_dem (p := p') fun q hq u e => (h3 s1 hs1).1 u fun e' => a3 u e' (List.mem_append_left _ (List.mem_filterMap.2 ⟨.tmp u, by
   rw [hp]; simp [Op.operands]; exact ⟨q.1, by rw [← e]; simpa using hq⟩, rfl⟩))
 rw [actG_gst ops p s]
 cases hgs : gst ops p s.tm with
 | none =>
  cases hX : actG cx ops X s with
  | none => rfl
  | some s1 => simp only [Option.bind_none, Option.bind_some]; rw [actG_gst, hg s1 hX, hgs]
 | some b =>
  cases b with
  | false =>
   rw [hd]
   simp only [putV_some]
   by_cases hlt : Nat.blt d1 cx.nt = true
   ·rw [if_pos hlt, Option.bind_some, h2]
    cases hX : actG cx ops X s with
    | none => rfl
    | some s1 =>
     simp only [Option.map_some, Option.bind_some, demP, demPs]
     rw [actG_gst, hg s1 hX, hgs]
     simp only [hd, putV_some]
     rw [if_pos hlt]
   ·rw [if_neg hlt]
    cases hX : actG cx ops X s with
    | none => rfl
    | some s1 =>
     simp only [Option.bind_some, Option.bind_none]
     rw [actG_gst, hg s1 hX, hgs]
     simp only [hd, putV_some]
     rw [if_neg hlt]
  | true =>
   simp only
   rw [build_actO hp hd]
   have back : ∀ s1, actG cx ops X s = some s1 → actG cx ops p s1 = if Nat.blt d1 cx.nt then (match bV cx.T t n parts.toList s.tm with
     | some (sz, es) => putOwn none d1 sz es s1
     | none => none) else none := fun s1 hs1 => by
    rw [actG_gst, hg s1 hs1, hgs]
    simp only
    rw [build_actO hp hd, hbv s1 hs1]
   by_cases hlt : Nat.blt d1 cx.nt = true
   case neg =>
    rw [if_neg hlt]
    cases hX : actG cx ops X s with
    | none => rfl
    | some s1 => simp only [Option.bind_some, Option.bind_none]; rw [back s1 hX, if_neg hlt]
   rw [if_pos hlt]
   cases hb : bV cx.T t n parts.toList s.tm with
   | none =>
    cases hX : actG cx ops X s with
    | none => rfl
    | some s1 => simp only [Option.bind_some, Option.bind_none]; rw [back s1 hX, if_pos hlt, hb]
   | some x =>
    obtain ⟨sz, es⟩ := x
    simp only [putOwn_eq]
    by_cases hf : s.fr d1 = true
    ·rw [if_pos hf]
     cases hX : actG cx ops X s with
     | none => rfl
     | some s1 =>
      simp only [Option.bind_some, Option.bind_none]
      rw [back s1 hX, if_pos hlt, hb]
      simp only [putOwn_eq]
      rw [if_pos (by rw [actG_fr hc hne hX]; exact hf)]
    ·rw [if_neg hf]
     simp only [Option.bind_some]
     obtain ⟨φ', ⟨p2, rfl, ev2⟩, k2, _⟩ := actG_upd (cx := cx) (s := frS d1 s) hfree hne
     rw [k2, actG_frS hc hne]
     have hkeep : demP p2 (.own (.tmp s.g.dp d1 0) sz es) = .own (.tmp s.g.dp d1 0) sz es := by
      simp only [demP]
      have hno : ¬ (p2.p (.tmp s.g.dp d1 0) = true ∨ p2.g (.tmp s.g.dp d1 0) ≠ .tmp s.g.dp d1 0) := by
       intro hpp
       rcases ev2 _ hpp with h | ⟨t', a', ht, ha⟩
       ·exact h
       ·exact hf (hwf t' a' d1 0 ht ha)
      have h1 : p2.p (.tmp s.g.dp d1 0) = false := by
       cases h : p2.p (.tmp s.g.dp d1 0) with
       | false => rfl
       | true => exact absurd (.inl h) hno
      have h2 : p2.g (.tmp s.g.dp d1 0) = .tmp s.g.dp d1 0 := Classical.byContradiction fun h => hno (.inr h)
      rw [h1, h2]
     rw [hkeep]
     cases hX : actG cx ops X s with
     | none => rfl
     | some s1 =>
      simp only [Option.bind_some, Option.map_some]
      rw [back s1 hX, if_pos hlt, hb]
      simp only [putOwn_eq]
      rw [if_neg (by rw [actG_fr hc hne hX]; exact hf), (actG_bx (newCls_row hc) hX).1]
end
end Go.Abs
namespace Go.Abs
open Go
set_option linter.unusedVariables false
set_option linter.unusedSimpArgs false
set_option linter.unnecessarySimpa false
set_option linter.unusedSectionVars false
variable [Tabs]
theorem apart_symm {ops : Array Oper} {x y : Oper} (h : Oper.apart ops x y = true) : Oper.apart ops y x = true := by
 obtain ⟨a1, a2, a3⟩ := Oper.apart_spec h
 unfold Oper.apart
 simp only [Bool.and_eq_true]
 refine ⟨?_, ?_⟩
 ·cases hy : y.dst with
  | none => rfl
  | some d =>
   simp only [Bool.and_eq_true, Bool.not_eq_true', bne_iff_ne, ne_eq]
   refine ⟨?_, fun e => a2 d e hy⟩
   rw [← Bool.not_eq_true, List.contains_iff_mem]
   exact a3 d hy
 ·cases hx : x.dst with
  | none => rfl
  | some d =>
   simp only [Bool.not_eq_true']
   rw [← Bool.not_eq_true, List.contains_iff_mem]
   exact a1 d hx
section
variable {P : Program} {g0 : G} {h0 : Gh} {w0 : World} {nt : Nat} {R : Type} {cx : Cx R}
theorem out_of_upon {F : Fence} (hF : IsF F) {o : Oper} {a : Act} {w : World} {next : Act → World → Prop} (h : o.wpIn F 0 P a w next (fun _ _ _ => False)) : ∃ a' w', next a' w' := by
 have room : ∀ k, F.room k := fun k d hd => by rcases hF with rfl | ⟨l, rfl⟩ <;> cases hd
 have h2 := h.2
 unfold Oper.uponIn at h2
 split at h2
 ·exact ⟨_, _, h2⟩
 ·exact ⟨_, _, h2⟩
 ·exact ⟨_, _, h2⟩
 ·obtain ⟨_, _, hc⟩ := h2
  obtain ⟨e, w', fr, hR, _⟩ := hc [] (room _)
  cases e with
  | returned v => exact ⟨_, _, hR⟩
  | panicked c => exact hR.elim
  | outgrown => obtain ⟨_, _, hx⟩ := hR; exact hx.elim
 ·obtain ⟨_, hc⟩ := h2
  obtain ⟨v, w', hR, _⟩ := hc default [] (room _)
  exact ⟨_, _, hR⟩
 ·obtain ⟨_, _, hc⟩ := h2
  obtain ⟨e, w', hR, _⟩ := hc default [] (room _)
  cases e with
  | returned v => exact ⟨_, _, hR⟩
  | panicked c => exact hR.elim
  | outgrown => obtain ⟨_, _, hx⟩ := hR; exact hx.elim
 ·exact h2.elim
 ·exact h2.elim
structure Cxt (P : Program) (cx : Cx R) (nt : Nat) : Prop where
 T : TyOk P cx.T
 nt : cx.nt = nt
 C : CSound P cx.C
 E : ESound P cx.E
theorem live (hcx : Cxt P cx nt) {eff : Bool} {ops : Array Oper} {o : Oper} {s : St} {K : St → Option R} {r : R} (hs : runG cx eff ops o s (nrm noP K) = some r) {a : Act} {w : World} {h : Gh} (hsi : SI nt g0 h0 w0 s a w h) :
  ∃ s1 a1 w1 h1, SI nt g0 h0 w0 s1 a1 w1 h1 ∧ K s1 = some r := by
 have := runG_sound hcx.T hcx.nt hcx.C hcx.E (.inl rfl) hs hsi (next := fun a' w' => ∃ s' h', SI nt g0 h0 w0 s' a' w' h' ∧ K s' = some r) (Q := fun _ _ _ => False)
  ⟨fun s' a' w' h' hsi' hk => ⟨s', h', hsi', hk⟩, fun x s' a' w' h' v hsi' hv hk => by simp [nrm, noP] at hk⟩
 split at this
 ·obtain ⟨a', w', s', h', h1, h2⟩ := out_of_upon (.inl rfl) this
  exact ⟨s', a', w', h', h1, h2⟩
 ·obtain ⟨_, s', h', h1, h2⟩ := this
  exact ⟨s', _, _, h', h1, h2⟩
theorem SI.wfOwn {s : St} {a : Act} {w : World} {h : Gh} (hsi : SI nt g0 h0 w0 s a w h) : WFown s := by
 intro t a t' k ht ha
 have := (hsi.fi.tm t _ ht).2
 cases a <;> simp [ownId] at ha <;> subst ha <;> simp only [AV.ok] at this <;> exact this.2
def WFptr (s : St) : Prop := ∀ t d u off, s.tm t = some (.ptr d u off) → (s.g.bx d u).isSome = true
theorem SI.wfPtr {s : St} {a : Act} {w : World} {h : Gh} (hsi : SI nt g0 h0 w0 s a w h) : WFptr s := by
 intro t d u off ht
 have := (hsi.fi.tm t _ ht).2
 simp only [AV.ok] at this
 exact this.2
theorem reader_act {ops : Array Oper} {o : Oper} {d : Nat} (hc : isReader (clsOp o.op) = true) (hd : o.dst = some d) (s : St) : actG cx ops o s = if Nat.blt d cx.nt then (valR cx.T ops o s).map (fun v => sU s d v) else none := by
 have hO : actO cx o s = if Nat.blt d cx.nt then (rdV cx.T s.tm s.g.bx o.op).map (fun v => sU s d v) else none := by
  unfold actO
  rw [reader_noCall hc]
  simp only
  rw [reader_step hc hd]
  cases rdV cx.T s.tm s.g.bx o.op <;> rfl
 have hV : putV cx.nt o.dst (.tup []) s = if Nat.blt d cx.nt then some (sU s d (.tup [])) else none := by rw [hd]; rfl
 unfold actG valR
 cases o.guard with
 | none => exact hO
 | some gw =>
  obtain ⟨g, want⟩ := gw
  simp only
  cases guardV ops s.tm g with
  | none => simp only; split <;> rfl
  | some b =>
   cases b with
   | none => simp only; rw [hV]; rfl
   | some b =>
    simp only
    by_cases hb : (b == want) = true
    ·rw [if_pos hb, if_pos hb]; exact hO
    ·rw [if_neg hb, if_neg hb]; rw [hV]; rfl
theorem valR_same {T : Nat → Option TI} {ops : Array Oper} {o : Oper} {s s1 : St} (htm : ∀ t, t ∈ o.looksAt ops → s1.tm t = s.tm t) (hbx : clsOp o.op = .load → ∀ t a, (∃ q, o.op = .load t q ∧ ev s.tm q = some a) → loadA T s1.g.bx t a = loadA T s.g.bx t a) :
  valR T ops o s1 = valR T ops o s := by
 have := valR_dem (T := T) (p := Pz.of fun _ => false) (ops := ops) (o := o) (s := s) (s1 := s1) (fun t ht => by rw [htm t ht]; cases s.tm t <;> simp [demP_none]) (fun hl t a ha => by
  rw [demP_none, hbx hl t a ha]
  cases loadA T s.g.bx t a <;> simp [demP_none])
 rw [this]
 cases valR T ops o s <;> simp [demP_none]
theorem swap_load_alloc {ops : Array Oper} {p o : Oper} {t da d : Nat} (hp : p.op = .alloc t) (hda : p.dst = some da) (hc : isReader (clsOp o.op) = true) (hd : o.dst = some d) (hap : Oper.apart ops p o = true) (s : St) (hwf : WFptr s) :
  (actG cx ops p s).bind (actG cx ops o) = (actG cx ops o s).bind (actG cx ops p) := by
 obtain ⟨a1, a2, a3⟩ := Oper.apart_spec hap
 have hne : d ≠ da := fun e => a2 da hda (by rw [hd, e])
 have hg : ∀ v, gst ops p (sU s d v).tm = gst ops p s.tm := fun v => gst_dem (p := Pz.of fun _ => false) fun u hu => by
  show upd s.tm d (some v) u = _
  rw [upd_ne (fun e => a3 d hd (by rw [← e]; exact hu))]
  cases s.tm u <;> simp [demP_none]
 have look : ∀ u, u ∈ o.looksAt ops → u ≠ da := fun u hu e => a1 da hda (by rw [← e]; exact hu)
 rw [actG_gst ops p s, reader_act hc hd s]
 have pv : ∀ v, actG cx ops p (sU s d v) = match gst ops p s.tm with
   | some true => actO cx p (sU s d v)
   | some false => putV cx.nt p.dst (.tup []) (sU s d v)
   | none => none := fun v => by (rw [actG_gst, hg]) <;> rfl
 by_cases hlt : Nat.blt d cx.nt = true
 case neg =>
  rw [if_neg hlt]
  have : ∀ s', actG cx ops o s' = none := fun s' => by rw [reader_act hc hd s', if_neg hlt]
  have hx : ∀ X : Option St, X.bind (actG cx ops o) = none := fun X => by
   cases X with
   | none => rfl
   | some s1 => exact this s1
  rw [hx]; rfl
 rw [if_pos hlt]
 have ro : ∀ s', actG cx ops o s' = (valR cx.T ops o s').map (fun v => sU s' d v) := fun s' => by rw [reader_act hc hd s', if_pos hlt]
 cases hgs : gst ops p s.tm with
 | none =>
  cases hv : valR cx.T ops o s with
  | none => rfl
  | some v => simp only [Option.map_some, Option.bind_some, Option.bind_none]; rw [pv, hgs]
 | some b =>
  cases b with
  | false =>
   simp only [hda, putV_some]
   by_cases hlt' : Nat.blt da cx.nt = true
   ·rw [if_pos hlt', Option.bind_some, ro, valR_same (s := s) (s1 := sU s da (.tup [])) (fun u hu => upd_ne (look u hu)) (fun _ _ _ _ => rfl)]
    cases hv : valR cx.T ops o s with
    | none => rfl
    | some v =>
     simp only [Option.map_some, Option.bind_some]
     rw [pv, hgs]
     simp only [hda, putV_some]
     rw [if_pos hlt', sU_comm hne.symm]
   ·rw [if_neg hlt']
    cases hv : valR cx.T ops o s with
    | none => rfl
    | some v =>
     simp only [Option.map_some, Option.bind_some, Option.bind_none]
     rw [pv, hgs]
     simp only [hda, putV_some]
     rw [if_neg hlt']
  | true =>
   simp only
   rw [alloc_actO hp hda]
   have pv' : ∀ v, actG cx ops p (sU s d v) = if Nat.blt da cx.nt then (match cx.T t, s.g.bx s.g.dp da with
     | some ti, none => some (sU (insB s.g.dp da { cells := ti.zero.map .d, frz := false, ty := ti.mark } (sU s d v)) da (.ptr s.g.dp da 0))
     | _, _ => none) else none := fun v => by
    rw [pv, hgs]
    simp only
    rw [alloc_actO hp hda, allocA_eq]; rfl
   by_cases hlt' : Nat.blt da cx.nt = true
   case neg =>
    rw [if_neg hlt']
    cases hv : valR cx.T ops o s with
    | none => rfl
    | some v => simp only [Option.map_some, Option.bind_some, Option.bind_none]; rw [pv', if_neg hlt']
   rw [if_pos hlt', allocA_eq]
   cases hT : cx.T t with
   | none =>
    cases hv : valR cx.T ops o s with
    | none => rfl
    | some v => simp only [Option.map_some, Option.bind_some, Option.bind_none]; rw [pv', if_pos hlt', hT]
   | some ti =>
    cases hb : s.g.bx s.g.dp da with
    | some b =>
     cases hv : valR cx.T ops o s with
     | none => rfl
     | some v => simp only [Option.map_some, Option.bind_some, Option.bind_none]; rw [pv', if_pos hlt', hT, hb]
    | none =>
     simp only [Option.bind_some]
     rw [ro, valR_same (s := s) (fun u hu => upd_ne (look u hu)) (fun _ t' a ⟨q, _, hq⟩ => by
      cases a with
      | ptr d' u off =>
       have hsome : (s.g.bx d' u).isSome = true := by
        cases q with
        | tmp tq => exact hwf tq d' u off hq
        | const v => simp only [ev] at hq; obtain ⟨x, hx⟩ := cv_d hq; cases hx
        | func f => simp [ev] at hq
        | global g => simp [ev] at hq
       show loadA cx.T (fun d u => if Nat.beq d s.g.dp && Nat.beq u da then some { cells := ti.zero.map .d, frz := false, ty := ti.mark } else s.g.bx d u) t' (.ptr d' u off) = _
       have hno : ¬ (Nat.beq d' s.g.dp && Nat.beq u da) = true := by
        intro he
        have he : d' = s.g.dp ∧ u = da := by simpa using he
        rw [he.1, he.2, hb] at hsome; cases hsome
       unfold loadA
       simp only [if_neg hno]
      | d x =>
       unfold loadA
       cases cx.T t' with
       | none => rfl
       | some _ => cases x <;> rfl
      | _ => unfold loadA; cases cx.T t' <;> rfl)]
     cases hv : valR cx.T ops o s with
     | none => rfl
     | some v =>
      simp only [Option.map_some, Option.bind_some]
      rw [pv', if_pos hlt', hT, hb]
      simp only
      rw [sU_comm hne.symm]
      rfl
theorem swap_reader_act {ops : Array Oper} {p o : Oper} {d : Nat} (hc : isReader (clsOp o.op) = true) (hd : o.dst = some d) (hap : Oper.apart ops p o = true) (hk : keepsBx (clsOp p.op) = true) (s : St) :
  (actG cx ops p s).bind (actG cx ops o) = (actG cx ops o s).bind (actG cx ops p) := by
 obtain ⟨a1, a2, a3⟩ := Oper.apart_spec hap
 obtain ⟨φ, ⟨p', rfl, _⟩, h2, h3⟩ := actG_upd (cx := cx) (s := s) (operFree_of (a3 d hd)) (fun e => a2 d e hd)
 rw [reader_act hc hd s]
 by_cases hlt : Nat.blt d cx.nt = true
 case neg =>
  rw [if_neg hlt]
  cases actG cx ops p s with
  | none => rfl
  | some s1 => simp only [Option.bind_some, Option.bind_none]; rw [reader_act hc hd s1, if_neg hlt]
 rw [if_pos hlt]
 have vr : ∀ s1, actG cx ops p s = some s1 → valR cx.T ops o s1 = (valR cx.T ops o s).map (demP p') := fun s1 hs1 =>
  valR_dem (fun t ht => (h3 s1 hs1).1 t fun e => a1 t e ht) fun _ t a _ => (h3 s1 hs1).2 hk t a
 cases hv : valR cx.T ops o s with
 | none =>
  cases hp : actG cx ops p s with
  | none => rfl
  | some s1 => simp only [Option.bind_some, Option.map_none, Option.bind_none]; rw [reader_act hc hd s1, if_pos hlt, vr s1 hp, hv]; rfl
 | some v =>
  simp only [Option.map_some, Option.bind_some]
  rw [h2]
  cases hp : actG cx ops p s with
  | none => rfl
  | some s1 => simp only [Option.bind_some, Option.map_some]; rw [reader_act hc hd s1, if_pos hlt, vr s1 hp, hv]; rfl
theorem act_two {ops : Array Oper} {p o : Oper} {s : St} {K : St → Option R} : runG cx false ops p s (nrm noP fun s1 => runG cx false ops o s1 (nrm noP K)) = match (actG cx ops p s).bind (actG cx ops o) with
  | some s2 => K s2
  | none => none := by
 rw [act_run]
 cases actG cx ops p s with
 | none => rfl
 | some s1 => simp only [Option.bind_some]; (rw [act_run]) <;> rfl
theorem cls_alloc {op : Op} (h : clsOp op = .alloc) : ∃ t, op = .alloc t := by
 cases op with
 | alloc t => exact ⟨t, rfl⟩
 | call c =>
  simp only [clsOp] at h
  repeat' (split at h <;> try (cases h; done))
  all_goals cases h
 | _ => cases h
theorem cls_build {op : Op} (h : clsOp op = .build) : ∃ t n ps, op = .buildSlice t n ps := by
 cases op with
 | buildSlice t n ps => exact ⟨t, n, ps, rfl⟩
 | call c =>
  simp only [clsOp] at h
  repeat' (split at h <;> try (cases h; done))
  all_goals cases h
 | _ => cases h
theorem dst_of {o : Oper} (h : dstOk o = true) (hc : clsOp o.op ≠ .store) (hc' : clsOp o.op ≠ .call) : ∃ d, o.dst = some d := by
 unfold dstOk at h
 split at h
 ·rename_i e; exact absurd e hc
 ·rename_i e; exact absurd e hc'
 ·exact Option.isSome_iff_exists.1 h
structure Pair (ops : Array Oper) (p o : Oper) (e1 e2 : Bool) : Prop where
 sw : swaps (clsOp p.op) (clsOp o.op) = true
 ap : Oper.apart ops p o = true
 d1 : dstOk p = true
 d2 : dstOk o = true
 f1 : e1 = true → isPure (clsOp o.op) = true
 f2 : e2 = true → isPure (clsOp p.op) = true
theorem past_reader {KP : D → G → Option R} {e1 e2 : Bool} {ops : Array Oper} {p o : Oper} {d : Nat} (hc : isReader (clsOp p.op) = true) (hd : p.dst = some d) (hap : Oper.apart ops p o = true) {s : St} (hl : ∀ t q a, p.op = .load t q → ev s.tm q = some a → bxB cx e2 o s a) {K : St → Option R} {r : R}
  (hs : runG cx e1 ops p s (nrm KP fun s1 => runG cx e2 ops o s1 (nrm KP K)) = some r) : runG cx e2 ops o s (nrm KP fun s1 => runG cx e1 ops p s1 (nrm KP K)) = some r := by
 rw [reader_run hc hd] at hs
 by_cases hlt : Nat.blt d cx.nt = true
 ·rw [if_pos hlt] at hs
  cases hv : valR cx.T ops p s with
  | none => rw [hv] at hs; cases hs
  | some v =>
   rw [hv] at hs
   simp only at hs
   rw [← swap_reader (eff' := e1) hc hd (apart_symm hap) s hl K hv hlt]
   exact hs
 ·rw [if_neg hlt] at hs; cases hs
theorem swap_two {ops : Array Oper} {p o : Oper} {e1 e2 : Bool} (hp : Pair ops p o e1 e2) (hnp : isPure (clsOp o.op) = false) {s : St} (hw1 : WFown s) (hw2 : WFptr s) {K : St → Option R} {r : R}
  (hs : runG cx e1 ops p s (nrm noP fun s1 => runG cx e2 ops o s1 (nrm noP K)) = some r) : runG cx e2 ops o s (nrm noP fun s1 => runG cx e1 ops p s1 (nrm noP K)) = some r := by
 have he1 : e1 = false := by
  cases e1 with
  | false => rfl
  | true => have := hp.f1 rfl; rw [hnp] at this; cases this
 by_cases hpp : isPure (clsOp p.op) = true
 ·have hcp : clsOp p.op = .pure := by cases h : clsOp p.op <;> rw [h] at hpp <;> simp_all [isPure]
  obtain ⟨d, hd⟩ := dst_of hp.d1 (by rw [hcp]; simp) (by rw [hcp]; simp)
  exact past_reader (by rw [hcp]; rfl) hd hp.ap (fun t q a h _ => by rw [h] at hcp; cases hcp) hs
 have he2 : e2 = false := by
  cases e2 with
  | false => rfl
  | true => exact absurd (hp.f2 rfl) hpp
 subst he1 he2
 have fin : (actG cx ops p s).bind (actG cx ops o) = (actG cx ops o s).bind (actG cx ops p) → runG cx false ops o s (nrm noP fun s1 => runG cx false ops p s1 (nrm noP K)) = some r := fun he => by
  rw [act_two, ← he, ← act_two]; exact hs
 have hsw := hp.sw
 cases hcp : clsOp p.op with
 | pure => rw [hcp] at hpp; simp [isPure] at hpp
 | store =>
  rw [hcp] at hsw
  cases hco : clsOp o.op <;> rw [hco] at hsw hnp <;> simp_all [swaps, isPure]
 | load =>
  obtain ⟨d, hd⟩ := dst_of hp.d1 (by rw [hcp]; simp) (by rw [hcp]; simp)
  by_cases hk : keepsBx (clsOp o.op) = true
  ·exact past_reader (by rw [hcp]; rfl) hd hp.ap (fun _ _ _ _ _ => .inl ⟨hk, rfl⟩) hs
  ·have hco : clsOp o.op = .alloc := by
    rw [hcp] at hsw
    cases hco : clsOp o.op <;> rw [hco] at hsw hk <;> simp_all [swaps, keepsBx]
   obtain ⟨t, ht⟩ := cls_alloc hco
   obtain ⟨da, hda⟩ := dst_of hp.d2 (by rw [hco]; simp) (by rw [hco]; simp)
   exact fin (swap_load_alloc ht hda (by rw [hcp]; rfl) hd (apart_symm hp.ap) s hw2).symm
 | alloc =>
  obtain ⟨t, ht⟩ := cls_alloc hcp
  obtain ⟨da, hda⟩ := dst_of hp.d1 (by rw [hcp]; simp) (by rw [hcp]; simp)
  rw [hcp] at hsw
  cases hco : clsOp o.op with
  | pure => rw [hco] at hnp; simp [isPure] at hnp
  | store => rw [hco] at hsw; simp [swaps] at hsw
  | alloc => rw [hco] at hsw; simp [swaps] at hsw
  | load =>
   obtain ⟨d, hd⟩ := dst_of hp.d2 (by rw [hco]; simp) (by rw [hco]; simp)
   exact fin (swap_load_alloc ht hda (by rw [hco]; rfl) hd hp.ap s hw2)
  | build => exact fin (swap_alloc ht hda (by rw [hco]; rfl) hp.ap s)
  | app => exact fin (swap_alloc ht hda (by rw [hco]; rfl) hp.ap s)
  | call => exact fin (swap_alloc ht hda (by rw [hco]; rfl) hp.ap s)
 | build =>
  obtain ⟨t, n, ps, ht⟩ := cls_build hcp
  obtain ⟨d1, hd1⟩ := dst_of hp.d1 (by rw [hcp]; simp) (by rw [hcp]; simp)
  rw [hcp] at hsw
  cases hco : clsOp o.op with
  | pure => rw [hco] at hnp; simp [isPure] at hnp
  | store => rw [hco] at hsw; simp [swaps] at hsw
  | call => rw [hco] at hsw; simp [swaps] at hsw
  | load =>
   obtain ⟨d, hd⟩ := dst_of hp.d2 (by rw [hco]; simp) (by rw [hco]; simp)
   exact fin (swap_reader_act (by rw [hco]; rfl) hd hp.ap (by rw [hcp]; rfl) s)
  | alloc =>
   obtain ⟨t', ht'⟩ := cls_alloc hco
   obtain ⟨da, hda⟩ := dst_of hp.d2 (by rw [hco]; simp) (by rw [hco]; simp)
   exact fin (swap_alloc ht' hda (by rw [hcp]; rfl) (apart_symm hp.ap) s).symm
  | build => exact fin (swap_build ht hd1 (by rw [hco]; rfl) hp.ap s hw1)
  | app => exact fin (swap_build ht hd1 (by rw [hco]; rfl) hp.ap s hw1)
 | app =>
  rw [hcp] at hsw
  cases hco : clsOp o.op with
  | pure => rw [hco] at hnp; simp [isPure] at hnp
  | store => rw [hco] at hsw; simp [swaps] at hsw
  | call => rw [hco] at hsw; simp [swaps] at hsw
  | app => rw [hco] at hsw; simp [swaps] at hsw
  | load =>
   obtain ⟨d, hd⟩ := dst_of hp.d2 (by rw [hco]; simp) (by rw [hco]; simp)
   exact fin (swap_reader_act (by rw [hco]; rfl) hd hp.ap (by rw [hcp]; rfl) s)
  | alloc =>
   obtain ⟨t', ht'⟩ := cls_alloc hco
   obtain ⟨da, hda⟩ := dst_of hp.d2 (by rw [hco]; simp) (by rw [hco]; simp)
   exact fin (swap_alloc ht' hda (by rw [hcp]; rfl) (apart_symm hp.ap) s).symm
  | build =>
   obtain ⟨t, n, ps, ht⟩ := cls_build hco
   obtain ⟨d1, hd1⟩ := dst_of hp.d2 (by rw [hco]; simp) (by rw [hco]; simp)
   exact fin (swap_build ht hd1 (by rw [hcp]; rfl) (apart_symm hp.ap) s hw1).symm
 | call =>
  rw [hcp] at hsw
  cases hco : clsOp o.op with
  | pure => rw [hco] at hnp; simp [isPure] at hnp
  | store => rw [hco] at hsw; simp [swaps] at hsw
  | call => rw [hco] at hsw; simp [swaps] at hsw
  | app => rw [hco] at hsw; simp [swaps] at hsw
  | build => rw [hco] at hsw; simp [swaps] at hsw
  | load =>
   obtain ⟨d, hd⟩ := dst_of hp.d2 (by rw [hco]; simp) (by rw [hco]; simp)
   exact fin (swap_reader_act (by rw [hco]; rfl) hd hp.ap (by rw [hcp]; rfl) s)
  | alloc =>
   obtain ⟨t', ht'⟩ := cls_alloc hco
   obtain ⟨da, hda⟩ := dst_of hp.d2 (by rw [hco]; simp) (by rw [hco]; simp)
   exact fin (swap_alloc ht' hda (by rw [hcp]; rfl) (apart_symm hp.ap) s).symm
theorem cls_load {op : Op} (h : isLoad (clsOp op) = true) : ∃ t q, op = .load t q := by
 have h : clsOp op = .load := by cases hc : clsOp op <;> rw [hc] at h <;> first | rfl | cases h
 cases op with
 | load t q => exact ⟨t, q, rfl⟩
 | call c =>
  simp only [clsOp] at h
  repeat' (split at h <;> try (cases h; done))
  all_goals cases h
 | _ => cases h
theorem ownLd_nl {o : Oper} {s : St} (h : isLoad (clsOp o.op) = false) : ownLd o s = true := by
 unfold ownLd
 split
 ·rename_i t p hp
  rw [hp] at h; cases h
 ·rfl
theorem runC_some {eff : Bool} {ops : Array Oper} {o : Oper} {s : St} {k : Ex → St → Option R} {r : R} (h : runC cx eff ops o s k = some r) : (eff = true → ownLd o s = true) ∧ runG cx eff ops o s k = some r := by
 unfold runC at h
 split at h
 ·cases h
 ·rename_i hc
  refine ⟨fun he => ?_, h⟩
  rw [he] at hc
  simpa using hc
theorem runC_of {eff : Bool} {ops : Array Oper} {o : Oper} {s : St} (h : eff = true → ownLd o s = true) : runC cx eff ops o s = runG cx eff ops o s := by
 funext k
 unfold runC
 split
 ·rename_i hc
  simp only [Bool.and_eq_true, Bool.not_eq_true'] at hc
  rw [h hc.1] at hc
  cases hc.2
 ·rfl
theorem runC_nl {eff : Bool} {ops : Array Oper} {o : Oper} {s : St} (h : isLoad (clsOp o.op) = false) : runC cx eff ops o s = runG cx eff ops o s := runC_of fun _ => ownLd_nl h
theorem ownLd_dem {p : Pz} {ops : Array Oper} {o : Oper} {s s1 : St} (ht : ∀ t, t ∈ o.looksAt ops → s1.tm t = (s.tm t).map (demP p)) (hdp : s1.g.dp = s.g.dp) : ownLd o s1 = ownLd o s := by
 unfold ownLd
 split
 ·rename_i t q hop
  have hq : ev s1.tm q = (ev s.tm q).map (demP p) := ev_dem fun t e => ht t (by
   subst e
   exact List.mem_append_left _ (List.mem_filterMap.2 ⟨.tmp t, by rw [hop]; simp [Op.operands], rfl⟩))
  rw [hq, hdp]
  cases ev s.tm q with
  | none => rfl
  | some a =>
   cases a with
   | own j z es => simp only [Option.map_some, demP]; cases p.p j <;> rfl
   | raw o k j z es => simp only [Option.map_some, demP]; cases (p.p j || p.q j z) <;> rfl
   | _ => simp [demP]
 ·rfl
theorem own_act {ops : Array Oper} {p o : Oper} {d : Nat} {s s1 : St} (hap : Oper.apart ops p o = true) (hd : o.dst = some d) (hs : actG cx ops p s = some s1) (hdp : s1.g.dp = s.g.dp) : ownLd o s1 = ownLd o s := by
 obtain ⟨a1, a2, a3⟩ := Oper.apart_spec hap
 obtain ⟨φ, ⟨p', rfl, _⟩, h2, h3⟩ := actG_upd (cx := cx) (s := s) (operFree_of (a3 d hd)) (fun e => a2 d e hd)
 exact ownLd_dem (fun t ht => (h3 s1 hs).1 t fun e => a1 t e ht) hdp
structure PairC (keep : Bool) (ops : Array Oper) (p o : Oper) (e1 e2 : Bool) : Prop where
 sw : swaps (clsOp p.op) (clsOp o.op) = true
 ap : Oper.apart ops p o = true
 d1 : dstOk p = true
 d2 : dstOk o = true
 f1 : e1 = true → isPure (clsOp o.op) = true ∨ isLoad (clsOp p.op) = true
 f2 : e2 = true → isPure (clsOp p.op) = true ∨ isLoad (clsOp o.op) = true ∨ (keep = true ∧ (goCall o.op).isSome = true ∧ e1 = true ∧ isLoad (clsOp p.op) = true)
theorem reached (hcx : Cxt P cx nt) {ops : Array Oper} {o : Oper} {s s1 : St} (hs : actG cx ops o s = some s1) {r : R} {a : Act} {w : World} {h : Gh} (hsi : SI nt g0 h0 w0 s a w h) : ∃ a1 w1 h1, SI nt g0 h0 w0 s1 a1 w1 h1 := by
 classical
 have hr : runG cx false ops o s (nrm noP fun s' => if s' = s1 then some r else none) = some r := by
  rw [act_run, hs]; simp
 obtain ⟨s2, a1, w1, h1, q1, q2⟩ := live hcx hr hsi
 by_cases he : s2 = s1
 ·rw [← he]; exact ⟨a1, w1, h1, q1⟩
 ·rw [if_neg he] at q2; cases q2
theorem load_free {KP : D → G → Option R} {ops : Array Oper} {o : Oper} {d : Nat} {e : Bool} (hl : isLoad (clsOp o.op) = true) (hd : o.dst = some d) {s : St} {K : St → Option R} : runG cx e ops o s (nrm KP K) = runG cx false ops o s (nrm KP K) := by
 have hc : isReader (clsOp o.op) = true := by
  obtain ⟨t, q, hq⟩ := cls_load hl
  rw [hq]; rfl
 rw [reader_run hc hd, reader_run hc hd]
theorem swap_twoC (hcx : Cxt P cx nt) {ops : Array Oper} {p o : Oper} {e1 e2 : Bool} (hp : PairC cx.hint.keep ops p o e1 e2) (hnp : isPure (clsOp o.op) = false) {s : St} {a : Act} {w : World} {h : Gh} (hsi : SI nt g0 h0 w0 s a w h) {K : St → Option R} {r : R}
  (hs : runC cx e1 ops p s (nrm noP fun s1 => runC cx e2 ops o s1 (nrm noP K)) = some r) : runC cx e2 ops o s (nrm noP fun s1 => runC cx e1 ops p s1 (nrm noP K)) = some r := by
 obtain ⟨hc1, hs⟩ := runC_some hs
 obtain ⟨a1, a2, a3⟩ := Oper.apart_spec hp.ap
 have dl : ∀ {x : Oper}, dstOk x = true → isLoad (clsOp x.op) = true → ∃ d, x.dst = some d := fun hx hl => by
  obtain ⟨t, q, hq⟩ := cls_load hl
  exact dst_of hx (by rw [hq]; simp [clsOp]) (by rw [hq]; simp [clsOp])
 by_cases hpp : isPure (clsOp p.op) = true
 ·have hcp : clsOp p.op = .pure := by cases h : clsOp p.op <;> rw [h] at hpp <;> simp_all [isPure]
  obtain ⟨d, hd⟩ := dst_of hp.d1 (by rw [hcp]; simp) (by rw [hcp]; simp)
  have hc : isReader (clsOp p.op) = true := by rw [hcp]; rfl
  have hnl : isLoad (clsOp p.op) = false := by rw [hcp]; rfl
  have hin : (fun s1 => runC cx e1 ops p s1 (nrm noP K)) = fun s1 => runG cx e1 ops p s1 (nrm noP K) := by funext s1; rw [runC_nl hnl]
  have hs0 := hs
  rw [reader_run hc hd] at hs0
  split at hs0
  case isFalse => cases hs0
  rename_i hlt
  cases hv : valR cx.T ops p s with
  | none => rw [hv] at hs0; cases hs0
  | some v =>
   rw [hv] at hs0
   simp only at hs0
   obtain ⟨hc2, hs2⟩ := runC_some hs0
   have hown : ownLd o (sU s d v) = ownLd o s := ownLd_dem (p := Pz.of fun _ => false) (ops := ops) (fun t ht => by
    show upd s.tm d (some v) t = _
    rw [upd_ne (fun e => a1 d hd (by rw [← e]; exact ht))]
    cases s.tm t <;> simp [demP_none]) rfl
   rw [runC_of (fun he => by rw [← hown]; exact hc2 he), hin]
   refine past_reader hc hd hp.ap (fun t q a h _ => by rw [h] at hcp; cases hcp) ?_
   rw [reader_run hc hd, if_pos hlt, hv]
   exact hs2
 ·by_cases hk : e2 = true ∧ isLoad (clsOp o.op) = false
  ·
   obtain ⟨hk, hno⟩ := hk
   rcases hp.f2 hk with h1 | h1 | ⟨hkeep, hgo, he1, hl⟩
   ·exact absurd h1 hpp
   ·rw [hno] at h1; cases h1
   have hown := hc1 he1
   obtain ⟨d, hd⟩ := dl hp.d1 hl
   obtain ⟨t, q, hq⟩ := cls_load hl
   have hc : isReader (clsOp p.op) = true := by rw [hq]; rfl
   have hcall : clsOp o.op = .call := by
    obtain ⟨x, hx⟩ := Option.isSome_iff_exists.1 hgo
    exact goCall_cls hx
   have hb : ∀ a, ev s.tm q = some a → bxB cx e2 o s a := fun a ha => by
    unfold ownLd at hown
    rw [hq] at hown
    simp only [ha] at hown
    cases a with
    | ptr d' u off =>
     simp only at hown
     have := Nat.eq_of_beq_eq_true hown
     subst this
     exact .inr ⟨hkeep, hcall, u, off, rfl⟩
    | _ => cases hown
   rw [runC_nl hno]
   have hs1 : runG cx e1 ops p s (nrm noP fun s1 => runG cx e2 ops o s1 (nrm noP K)) = some r := by
    rw [← hs]
    congr 2
    funext s1
    rw [runC_nl hno]
   have hs2 := past_reader hc hd hp.ap (fun t' q' a h ha => by rw [hq] at h; cases h; exact hb a ha) hs1
   rw [← hs2]
   obtain ⟨φ, ⟨p', rfl⟩, _, h3⟩ := runG_upd (cx := cx) (eff := e2) (o := o) (ops := ops) (s := s) (d := d) (operFree_of (a1 d hd)) (a2 d hd)
   refine h3 _ _ _ fun s1 q1 q2 => ?_
   obtain ⟨x, hx⟩ : ∃ x, ev s.tm q = some x := by
    cases hx : ev s.tm q with
    | none => unfold ownLd at hown; rw [hq] at hown; simp [hx] at hown
    | some x => exact ⟨x, rfl⟩
   rw [runC_of (fun _ => by
    rw [ownLd_dem (p := p') (ops := ops) (fun t ht => q1 t fun e => a3 t e ht) (q2 x (hb x hx)).1]
    exact hown)]
  ·
   have he2 : e2 = true → isLoad (clsOp o.op) = true := fun h => by
    cases hl : isLoad (clsOp o.op) with
    | true => rfl
    | false => exact absurd ⟨h, hl⟩ hk
   have he1 : e1 = true → isLoad (clsOp p.op) = true := fun h => by
    rcases hp.f1 h with h1 | h1
    ·rw [hnp] at h1; cases h1
    ·exact h1
   have strip : ∀ {x : Oper} {e : Bool}, dstOk x = true → (e = true → isLoad (clsOp x.op) = true) → ∀ s (K : St → Option R), runG cx e ops x s (nrm noP K) = runG cx false ops x s (nrm noP K) := fun {x e} hx he s K => by
    cases e with
    | false => rfl
    | true =>
     obtain ⟨d, hd⟩ := dl hx (he rfl)
     exact load_free (he rfl) hd
   rw [strip hp.d1 he1, act_run] at hs
   cases hact : actG cx ops p s with
   | none => simp [hact] at hs
   | some s1 =>
    simp only [hact] at hs
    obtain ⟨hc2, hs⟩ := runC_some hs
    obtain ⟨_, _, _, hsi1⟩ := reached (r := r) hcx hact hsi
    have hdp1 : s1.g.dp = s.g.dp := by rw [hsi1.dp, hsi.dp]
    have hs0 : runG cx false ops p s (nrm noP fun s1 => runG cx false ops o s1 (nrm noP K)) = some r := by
     rw [act_run, hact]
     show runG cx false ops o s1 (nrm noP K) = some r
     rw [← strip hp.d2 he2]
     exact hs
    have hs2 := swap_two ⟨hp.sw, hp.ap, hp.d1, hp.d2, (fun h => by cases h), (fun h => by cases h)⟩ hnp hsi.wfOwn hsi.wfPtr hs0
    rw [runC_of (fun h => by
     obtain ⟨d, hd⟩ := dl hp.d2 (he2 h)
     rw [← own_act hp.ap hd hact hdp1]
     exact hc2 h), strip hp.d2 he2, act_run]
    rw [act_run] at hs2
    cases hact2 : actG cx ops o s with
    | none => simp [hact2] at hs2
    | some s2 =>
     simp only [hact2] at hs2 ⊢
     obtain ⟨_, _, _, hsi2⟩ := reached (r := r) hcx hact2 hsi
     have hdp2 : s2.g.dp = s.g.dp := by rw [hsi2.dp, hsi.dp]
     rw [runC_of (fun h => by
      obtain ⟨d, hd⟩ := dl hp.d1 (he1 h)
      rw [own_act (apart_symm hp.ap) hd hact2 hdp2]
      exact hc1 h), strip hp.d1 he1]
     exact hs2
end
end Go.Abs
namespace Go.Abs
open Go
set_option linter.unusedVariables false
set_option linter.unusedSimpArgs false
set_option linter.unnecessarySimpa false
set_option linter.unusedSectionVars false
variable [Tabs]
section
variable {P : Program} {g0 : G} {h0 : Gh} {w0 : World} {nt : Nat} {R : Type} {cx : Cx R}
variable (cx) in
def runL (eff : Nat → Bool) (ops : Array Oper) (k0 : St → Option R) : List Nat → St → Option R
 | [], s => k0 s
 | i :: rest, s => match ops[i]? with
  | some o => runC cx (eff i) ops o s (nrm noP (runL eff ops k0 rest))
  | none => none
theorem runOps_runL {eff : Nat → Bool} {ops : Array Oper} {k0 : St → Option R} : ∀ (l : List Oper) (i : Nat), l = ops.toList.drop i → ∀ s, runOpsC cx eff ops l i s (nrm noP k0) = runL cx eff ops k0 (List.range' i l.length) s
 | [], i, hl, s => rfl
 | o :: rest, i, hl, s => by
  have ho : ops[i]? = some o := by
   have : (ops.toList.drop i)[0]? = some o := by rw [← hl]; rfl
   simpa using this
  have hrest : rest = ops.toList.drop (i + 1) := by
   have : (ops.toList.drop i).tail = rest := by rw [← hl]; rfl
   rw [← this, List.tail_drop]
  simp only [runOpsC, List.length_cons, List.range', runL, ho]
  congr 1
  refine nrm_eq _ (fun s' => ?_) (fun x s' => rfl) (fun e s' he _ => ?_)
  ·exact runOps_runL rest (i + 1) hrest s'
  ·cases e <;> first | exact absurd rfl he | rfl
theorem front_other (hcx : Cxt P cx nt) {eff : Nat → Bool} {ops : Array Oper} {k0 : St → Option R} {r : R} {i : Nat} {o : Oper} (ho : ops[i]? = some o) (hnp : isPure (clsOp o.op) = false) : ∀ (pre post : List Nat) {s : St} {a : Act} {w : World} {h : Gh},
  SI nt g0 h0 w0 s a w h → (∀ j ∈ pre, ∀ p, ops[j]? = some p → PairC cx.hint.keep ops p o (eff j) (eff i)) → runL cx eff ops k0 (pre ++ i :: post) s = some r → runL cx eff ops k0 (i :: (pre ++ post)) s = some r
 | [], post, s, a, w, h, hsi, hp, hs => hs
 | j :: pre, post, s, a, w, h, hsi, hp, hs => by
  simp only [List.cons_append, runL] at hs ⊢
  cases hj : ops[j]? with
  | none => simp [hj] at hs
  | some p =>
   simp only [hj] at hs
   have pj := hp j (by simp) p hj
   have hej : eff j = true → isLoad (clsOp p.op) = true := fun h => by
    rcases pj.f1 h with h1 | h1
    ·rw [hnp] at h1; cases h1
    ·exact h1
   obtain ⟨hc1, hs⟩ := runC_some hs
   have strip : ∀ s (K : St → Option R), runG cx (eff j) ops p s (nrm noP K) = runG cx false ops p s (nrm noP K) := fun s K => by
    cases he : eff j with
    | false => rfl
    | true =>
     have hl := hej he
     obtain ⟨t, q, hq⟩ := cls_load hl
     obtain ⟨d, hd⟩ := dst_of pj.d1 (by rw [hq]; simp [clsOp]) (by rw [hq]; simp [clsOp])
     exact load_free hl hd
   rw [strip, act_run] at hs
   cases hact : actG cx ops p s with
   | none => simp [hact] at hs
   | some s1 =>
    simp only [hact] at hs
    obtain ⟨a1, w1, h1, hsi1⟩ := reached (r := r) hcx hact hsi
    have ih := front_other hcx ho hnp pre post hsi1 (fun j hj => hp j (by simp [hj])) hs
    simp only [runL, ho] at ih ⊢
    have h2 : runC cx (eff j) ops p s (nrm noP fun s1 => runC cx (eff i) ops o s1 (nrm noP (runL cx eff ops k0 (pre ++ post)))) = some r := by
     rw [runC_of hc1, strip, act_run, hact]
     exact ih
    have h3 := swap_twoC hcx pj hnp hsi h2
    simpa only [hj] using h3
theorem pure_val (hcx : Cxt P cx nt) {eff : Nat → Bool} {ops : Array Oper} {k0 : St → Option R} {r : R} {i d : Nat} {o : Oper} (ho : ops[i]? = some o) (hc : isReader (clsOp o.op) = true) (hnl : clsOp o.op ≠ .load) (hd : o.dst = some d) : ∀ (pre post : List Nat) {s : St} {a : Act} {w : World} {h : Gh},
  SI nt g0 h0 w0 s a w h → (∀ j ∈ pre, ∀ p, ops[j]? = some p → Oper.apart ops p o = true) → runL cx eff ops k0 (pre ++ i :: post) s = some r → ∃ v, valR cx.T ops o s = some v ∧ Nat.blt d cx.nt = true
 | [], post, s, a, w, h, hsi, hp, hs => by
  simp only [List.nil_append, runL, ho] at hs
  replace hs := (runC_some hs).2
  rw [reader_run hc hd] at hs
  by_cases hlt : Nat.blt d cx.nt = true
  ·rw [if_pos hlt] at hs
   cases hv : valR cx.T ops o s with
   | none => rw [hv] at hs; cases hs
   | some v => exact ⟨v, rfl, hlt⟩
  ·rw [if_neg hlt] at hs; cases hs
 | j :: pre, post, s, a, w, h, hsi, hp, hs => by
  classical
  simp only [List.cons_append, runL] at hs
  cases hj : ops[j]? with
  | none => simp [hj] at hs
  | some p =>
   simp only [hj] at hs
   replace hs := (runC_some hs).2
   obtain ⟨a1, a2, a3⟩ := Oper.apart_spec (hp j (by simp) p hj)
   obtain ⟨φ, ⟨p', rfl⟩, h2, h3⟩ := runG_upd (cx := cx) (eff := eff j) (s := s) (operFree_of (a3 d hd)) (fun e => a2 d e hd)
   have h3' := h3 noP (runL cx eff ops k0 (pre ++ i :: post)) (fun s1 => if (∀ t, p.dst ≠ some t → s1.tm t = (s.tm t).map (demP p')) then runL cx eff ops k0 (pre ++ i :: post) s1 else none)
    (fun s1 q1 _ => by rw [if_pos q1])
   simp only at h3'
   rw [h3'] at hs
   obtain ⟨s1, b1, w1, h1, hsi1, hk1⟩ := live hcx hs hsi
   split at hk1
   case isFalse => cases hk1
   rename_i hrel
   obtain ⟨v, hv, hlt⟩ := pure_val hcx ho hc hnl hd pre post hsi1 (fun j hj => hp j (by simp [hj])) hk1
   rw [valR_dem (p := p') (s := s) (fun t ht => hrel t (fun e => a1 t e ht)) (fun hl => absurd hl hnl)] at hv
   cases hvs : valR cx.T ops o s with
   | none => rw [hvs] at hv; cases hv
   | some u => exact ⟨u, rfl, hlt⟩
theorem pure_front {eff : Nat → Bool} {ops : Array Oper} {k0 : St → Option R} {i d : Nat} {o : Oper} (ho : ops[i]? = some o) (hc : isReader (clsOp o.op) = true) (hnl : clsOp o.op ≠ .load) (hd : o.dst = some d) (hlt : Nat.blt d cx.nt = true) (post : List Nat) : ∀ (pre : List Nat) {s : St} {v : AV},
  (∀ j ∈ pre, ∀ p, ops[j]? = some p → Oper.apart ops p o = true) → valR cx.T ops o s = some v → runL cx eff ops k0 (pre ++ post) (sU s d v) = runL cx eff ops k0 (pre ++ i :: post) s
 | [], s, v, hp, hv => by
  simp only [List.nil_append, runL, ho]
  rw [runC_nl (by cases h : clsOp o.op <;> first | rfl | exact absurd h hnl), reader_run hc hd, if_pos hlt, hv]
 | j :: pre, s, v, hp, hv => by
  simp only [List.cons_append, runL]
  cases hj : ops[j]? with
  | none => rfl
  | some p =>
   simp only
   obtain ⟨a1, a2, a3⟩ := Oper.apart_spec (hp j (by simp) p hj)
   obtain ⟨φ, ⟨p', rfl⟩, h2, h3⟩ := runG_upd (cx := cx) (eff := eff j) (s := s) (operFree_of (a3 d hd)) (fun e => a2 d e hd)
   have h2' := h2 noP v (runL cx eff ops k0 (pre ++ post))
   simp only at h2'
   have hown : ownLd p (sU s d v) = ownLd p s := ownLd_dem (p := Pz.of fun _ => false) (ops := ops) (fun t ht => by
    show upd s.tm d (some v) t = _
    rw [upd_ne (fun e => a3 d hd (by rw [← e]; exact ht))]
    cases s.tm t <;> simp [demP_none]) rfl
   by_cases hck : eff j = true → ownLd p s = true
   case neg =>
    have hck : (eff j && !ownLd p s) = true := by
     cases he : eff j <;> cases ho' : ownLd p s <;> simp_all
    unfold runC
    rw [hown, hck]
   rw [runC_of (s := sU s d v) (by rw [hown]; exact hck), runC_of hck, h2']
   refine h3 _ _ _ fun s1 q1 _ => ?_
   refine pure_front ho hc hnl hd hlt post pre (fun j hj => hp j (by simp [hj])) ?_
   rw [valR_dem (p := p') (s := s) (fun t ht => q1 t (fun e => a1 t e ht)) (fun hl => absurd hl hnl), hv]
   rfl
theorem front (hcx : Cxt P cx nt) {eff : Nat → Bool} {ops : Array Oper} {k0 : St → Option R} {r : R} {i : Nat} {o : Oper} (ho : ops[i]? = some o) (hdo : dstOk o = true) (pre post : List Nat) {s : St} {a : Act} {w : World} {h : Gh}
  (hsi : SI nt g0 h0 w0 s a w h) (hp : ∀ j ∈ pre, ∀ p, ops[j]? = some p → PairC cx.hint.keep ops p o (eff j) (eff i)) (hs : runL cx eff ops k0 (pre ++ i :: post) s = some r) : runL cx eff ops k0 (i :: (pre ++ post)) s = some r := by
 by_cases hpp : isPure (clsOp o.op) = true
 ·have hcp : clsOp o.op = .pure := by cases h : clsOp o.op <;> rw [h] at hpp <;> simp_all [isPure]
  obtain ⟨d, hd⟩ := dst_of hdo (by rw [hcp]; simp) (by rw [hcp]; simp)
  have hc : isReader (clsOp o.op) = true := by rw [hcp]; rfl
  have hnl : clsOp o.op ≠ .load := by rw [hcp]; simp
  have hap : ∀ j ∈ pre, ∀ p, ops[j]? = some p → Oper.apart ops p o = true := fun j hj p hpj => (hp j hj p hpj).ap
  obtain ⟨v, hv, hlt⟩ := pure_val hcx ho hc hnl hd pre post hsi hap hs
  simp only [runL, ho]
  rw [runC_nl (by rw [hcp]; rfl), reader_run hc hd, if_pos hlt, hv]
  simp only
  rw [pure_front ho hc hnl hd hlt post pre hap hv]
  exact hs
 ·exact front_other hcx ho (by simpa using hpp) pre post hsi hp hs
inductive Anc (ops : Array Oper) (i : Nat) : Nat → Prop
 | edge {j : Nat} {o : Oper} {e : Edge} (ho : ops[j]? = some o) (he : e ∈ o.after.toList) (hb : Region.binds .any e = true) (hi : e.on = i) : Anc ops i j
 | step {j : Nat} {o : Oper} {e : Edge} (ho : ops[j]? = some o) (he : e ∈ o.after.toList) (hb : Region.binds .any e = true) (hi : Anc ops i e.on) : Anc ops i j
def masksOf : List Oper → List Nat → List Nat
 | [], done => done
 | o :: rest, done => masksOf rest (done ++ [maskE done o.after.toList])
theorem force_eq {α : Type} (n : Nat) (f : Nat → α) : force n f = f n := by cases n <;> rfl
theorem maskGo_eq {α : Type} : ∀ (l : List Oper) (done : List Nat) (f : List Nat → α), maskGo l done f = f (masksOf l done)
 | [], done, f => rfl
 | o :: rest, done, f => by
  simp only [maskGo, masksOf]
  rw [force_eq]
  exact maskGo_eq rest _ f
theorem maskE_bit {ops : Array Oper} {done : List Nat} {i : Nat} (hd : ∀ j i, (done.getD j 0).testBit i = true → Anc ops i j) : ∀ (es : List Edge), (maskE done es).testBit i = true → ∃ e ∈ es, Region.binds .any e = true ∧ (e.on = i ∨ Anc ops i e.on)
 | [], h => by simp [maskE] at h
 | e :: es, h => by
  simp only [maskE] at h
  split at h
  ·rename_i hb
   rw [Nat.testBit_or, Nat.testBit_or] at h
   simp only [Bool.or_eq_true] at h
   rcases h with h | h | h
   ·obtain ⟨e', h1, h2⟩ := maskE_bit hd es h
    exact ⟨e', by simp [h1], h2⟩
   ·refine ⟨e, by simp, hb, .inl ?_⟩
    rw [Nat.testBit_two_pow] at h
    simpa using h
   ·exact ⟨e, by simp, hb, .inr (hd _ _ h)⟩
  ·obtain ⟨e', h1, h2⟩ := maskE_bit hd es h
   exact ⟨e', by simp [h1], h2⟩
theorem masks_anc {ops : Array Oper} : ∀ (l : List Oper) (done : List Nat), l = ops.toList.drop done.length → (∀ j i, (done.getD j 0).testBit i = true → Anc ops i j) → ∀ j i, ((masksOf l done).getD j 0).testBit i = true → Anc ops i j
 | [], done, hl, hd => hd
 | o :: rest, done, hl, hd => by
  have ho : ops[done.length]? = some o := by
   have : (ops.toList.drop done.length)[0]? = some o := by rw [← hl]; rfl
   simpa using this
  have hrest : rest = ops.toList.drop (done.length + 1) := by
   have : (ops.toList.drop done.length).tail = rest := by rw [← hl]; rfl
   rw [← this, List.tail_drop]
  refine masks_anc rest _ (by simpa using hrest) ?_
  intro j i hb
  by_cases hj : j < done.length
  ·refine hd j i ?_
   rw [List.getD_eq_getElem?_getD] at hb ⊢
   rwa [List.getElem?_append_left hj] at hb
  ·by_cases hj2 : j = done.length
   ·subst hj2
    rw [List.getD_eq_getElem?_getD, List.getElem?_append_right (Nat.le_refl _)] at hb
    simp only [Nat.sub_self, List.getElem?_cons_zero, Option.getD_some] at hb
    obtain ⟨e, h1, h2, h3⟩ := maskE_bit hd _ hb
    rcases h3 with h3 | h3
    ·exact .edge ho h1 h2 h3
    ·exact .step ho h1 h2 h3
   ·rw [List.getD_eq_getElem?_getD, List.getElem?_eq_none (by simp; omega)] at hb
    simp at hb
theorem edgesOk_lt {ops : Array Oper} : ∀ (l : List Oper) (i : Nat), l = ops.toList.drop i → edgesOk l i = true → ∀ j o, i ≤ j → ops[j]? = some o → ∀ e ∈ o.after.toList, Region.binds .any e = true → e.on < j
 | [], i, hl, _, j, o, hij, ho => by
  have : ops.size ≤ i := by
   have := congrArg List.length hl
   simp at this; omega
  have hlt := (Array.getElem?_eq_some_iff.1 ho).1
  omega
 | o0 :: rest, i, hl, hk, j, o, hij, ho => by
  have ho0 : ops[i]? = some o0 := by
   have : (ops.toList.drop i)[0]? = some o0 := by rw [← hl]; rfl
   simpa using this
  have hrest : rest = ops.toList.drop (i + 1) := by
   have : (ops.toList.drop i).tail = rest := by rw [← hl]; rfl
   rw [← this, List.tail_drop]
  simp only [edgesOk, Bool.and_eq_true] at hk
  by_cases hj : j = i
  ·subst hj
   rw [ho] at ho0; cases ho0
   intro e he hb
   have := List.all_eq_true.1 hk.1 e he
   rw [hb] at this
   simpa using this
  ·exact edgesOk_lt rest (i + 1) hrest hk.2 j o (by omega) ho
theorem drawRow_get {ops : Array Oper} {o : Oper} {m : Nat} : ∀ {l : List Oper} {i : Nat}, drawRow ops o m l i = true → ∀ {j : Nat} {p : Oper}, l[j]? = some p → m.testBit (i + j) = true ∨ (swaps (clsOp p.op) (clsOp o.op) = true ∧ Oper.apart ops p o = true ∧ dstOk p = true ∧ dstOk o = true)
 | [], i, h, j, p, hj => by simp at hj
 | q :: rest, i, h, j, p, hj => by
  simp only [drawRow, Bool.and_eq_true, Bool.or_eq_true] at h
  cases j with
  | zero =>
   simp at hj; subst hj
   rcases h.1 with h1 | h1
   ·exact .inl h1
   ·exact .inr ⟨h1.1.1.1, h1.1.1.2, h1.1.2, h1.2⟩
  | succ j =>
   have := drawRow_get h.2 (j := j) (by simpa using hj)
   rwa [show i + 1 + j = i + (j + 1) by omega] at this
theorem drawGo_get {ops : Array Oper} {ms : List Nat} : ∀ {l done : List Oper}, drawGo ops l done ms = true → ∀ {j i : Nat} {p o : Oper}, (done ++ l)[j]? = some p → (done ++ l)[i]? = some o → j < i → done.length ≤ i →
  (ms.getD i 0).testBit j = true ∨ (swaps (clsOp p.op) (clsOp o.op) = true ∧ Oper.apart ops p o = true ∧ dstOk p = true ∧ dstOk o = true)
 | [], done, h, j, i, p, o, hj, hi, hlt, hle => by
  rw [List.append_nil, List.getElem?_eq_none hle] at hi; cases hi
 | q :: rest, done, h, j, i, p, o, hj, hi, hlt, hle => by
  simp only [drawGo, Bool.and_eq_true] at h
  by_cases he : i = done.length
  ·subst he
   rw [List.getElem?_append_right (Nat.le_refl _)] at hi
   simp at hi; subst hi
   rw [List.getElem?_append_left hlt] at hj
   have := drawRow_get h.1 hj
   simpa using this
  ·refine drawGo_get h.2 (j := j) (i := i) ?_ ?_ hlt (by simp; omega)
   ·rw [List.append_assoc]; exact hj
   ·rw [List.append_assoc]; exact hi
theorem effRow_get {keep : Bool} {eff : Nat → Bool} {ms : List Nat} {k : Nat} : ∀ {l : List Oper} {i : Nat}, effRow keep eff ms k l i = true → ∀ {j : Nat} {p : Oper}, l[j]? = some p → i + j = k ∨ (ms.getD k 0).testBit (i + j) = true ∨ (ms.getD (i + j) 0).testBit k = true ∨ isPure (clsOp p.op) = true ∨ (keep = true ∧ i + j < k ∧ eff (i + j) = true ∧ isLoad (clsOp p.op) = true)
 | [], i, h, j, p, hj => by simp at hj
 | q :: rest, i, h, j, p, hj => by
  simp only [effRow, Bool.and_eq_true, Bool.or_eq_true, Nat.beq_eq, Nat.blt_eq] at h
  cases j with
  | zero =>
   simp at hj; subst hj
   rcases h.1 with (((h1 | h1) | h1) | h1) | h1
   ·exact .inl h1
   ·exact .inr (.inl h1)
   ·exact .inr (.inr (.inl h1))
   ·exact .inr (.inr (.inr (.inl h1)))
   ·exact .inr (.inr (.inr (.inr ⟨h1.1.1.1, h1.1.1.2, h1.1.2, h1.2⟩)))
  | succ j =>
   have := effRow_get h.2 (j := j) (by simpa using hj)
   rwa [show i + 1 + j = i + (j + 1) by omega] at this
def remL (n : Nat) (listed : Array Bool) : List Nat := (List.range n).filter fun i => !listed.getD i true
theorem remL_split {n i : Nat} {listed : Array Bool} (hn : i < n) (hsz : listed.size = n) (hi : listed.getD i true = false) : ∃ pre post, remL n listed = pre ++ i :: post ∧ remL n (listed.setIfInBounds i true) = pre ++ post ∧ ∀ j ∈ pre, j < i ∧ listed.getD j true = false := by
 have hr : List.range n = List.range i ++ i :: List.range' (i + 1) (n - i - 1) := by
  rw [List.range_eq_range', List.range_eq_range']
  rw [show n = i + (1 + (n - i - 1)) by omega, ← List.range'_append, ← List.range'_append]
  simp
 refine ⟨(List.range i).filter fun i => !listed.getD i true, (List.range' (i + 1) (n - i - 1)).filter fun i => !listed.getD i true, ?_, ?_, ?_⟩
 ·unfold remL
  rw [hr, List.filter_append, List.filter_cons]
  simp [hi]
 ·unfold remL
  rw [hr, List.filter_append, List.filter_cons]
  have hii : (listed.setIfInBounds i true).getD i true = true := by
   rw [Array.getD_eq_getD_getElem?, Array.getElem?_setIfInBounds_self_of_lt (by omega)]; rfl
  rw [hii]
  simp only [Bool.not_true, Bool.false_eq_true, if_false]
  congr 1
  ·refine List.filter_congr fun j hj => ?_
   have hji : j ≠ i := by have := List.mem_range.1 hj; omega
   rw [Array.getD_eq_getD_getElem?, Array.getD_eq_getD_getElem?, Array.getElem?_setIfInBounds_ne (Ne.symm hji)]
  ·refine List.filter_congr fun j hj => ?_
   have hji : j ≠ i := by have := List.mem_range'.1 hj; omega
   rw [Array.getD_eq_getD_getElem?, Array.getD_eq_getD_getElem?, Array.getElem?_setIfInBounds_ne (Ne.symm hji)]
 ·intro j hj
  simp only [List.mem_filter, List.mem_range, Bool.not_eq_true'] at hj
  exact hj
def Closed (ops : Array Oper) (listed : Array Bool) : Prop := ∀ j o, ops[j]? = some o → listed.getD j false = true → ∀ e ∈ o.after.toList, Region.binds .any e = true → listed.getD e.on false = true
theorem Closed.anc {ops : Array Oper} {listed : Array Bool} (hc : Closed ops listed) {i j : Nat} (h : Anc ops i j) : listed.getD j false = true → listed.getD i false = true := by
 induction h with
 | edge ho he hb hi => intro hj; rw [← hi]; exact hc _ _ ho hj _ he hb
 | step ho he hb _ ih => intro hj; exact ih (hc _ _ ho hj _ he hb)
theorem getD_tf {listed : Array Bool} {j : Nat} (h : listed.getD j true = false) : listed.getD j false = false := by
 rw [Array.getD_eq_getD_getElem?] at h ⊢
 cases hj : listed[j]? with
 | none => rfl
 | some b => rw [hj] at h; simpa using h
theorem getD_in {listed : Array Bool} {j : Nat} (hj : j < listed.size) (h : listed.getD j true = true) : listed.getD j false = true := by
 rw [Array.getD_eq_getD_getElem?] at h ⊢
 rw [Array.getElem?_eq_getElem hj] at h ⊢
 simpa using h
theorem any_sound (hcx : Cxt P cx nt) {F : Fence} (hF : IsF F) {eff : Nat → Bool} {ops : Array Oper} {k0 : St → Option R} {r : R} {Q : Exit → Act → World → Prop} (hQ : ∀ s' a' w' h', SI nt g0 h0 w0 s' a' w' h' → k0 s' = some r → Q .normal a' w')
  (hlt : ∀ j o, ops[j]? = some o → ∀ e ∈ o.after.toList, Region.binds .any e = true → e.on < j)
  (hpair : ∀ j i p o, j < i → ops[j]? = some p → ops[i]? = some o → ¬ Anc ops j i → PairC cx.hint.keep ops p o (eff j) (eff i)) (hdst : ∀ j i o, j < i → ops[i]? = some o → ¬ Anc ops j i → dstOk o = true) :
  ∀ (fuel : Nat) (listed : Array Bool) {s : St} {a : Act} {w : World} {h : Gh}, listed.size = ops.size → Closed ops listed → (remL ops.size listed).length ≤ fuel → SI nt g0 h0 w0 s a w h → runL cx eff ops k0 (remL ops.size listed) s = some r →
   wpAnyIn F 0 P .any ops Q fuel listed a w := by
 have done : ∀ (listed : Array Bool), listed.size = ops.size → Region.ready .any ops listed = [] → remL ops.size listed = [] := by
  intro listed hsz hr
  cases hrem : remL ops.size listed with
  | nil => rfl
  | cons i rest =>
   exfalso
   have hi : i ∈ remL ops.size listed := by rw [hrem]; simp
   unfold remL at hi
   simp only [List.mem_filter, List.mem_range, Bool.not_eq_true'] at hi
   obtain ⟨hin, hil⟩ := hi
   obtain ⟨pre, post, h1, _, h3⟩ := remL_split hin hsz hil
   have hpre : pre = [] := by
    cases pre with
    | nil => rfl
    | cons j pre' =>
     rw [hrem] at h1
     have : i = j := by simpa using (List.cons.inj h1).1
     have := (h3 j (by simp)).1
     omega
   have hmem : i ∈ Region.ready .any ops listed := by
    rw [mem_ready]
    refine ⟨hil, ops[i], Array.getElem?_eq_getElem hin, ?_⟩
    intro e he hb
    have hlt' := hlt i _ (Array.getElem?_eq_getElem hin) e (by simpa using he) hb
    by_cases hu : listed.getD e.on true = true
    ·exact getD_in (by omega) hu
    ·exfalso
     have hu : listed.getD e.on true = false := by simpa using hu
     have hmem : e.on ∈ remL ops.size listed := by
      unfold remL
      simp only [List.mem_filter, List.mem_range, Bool.not_eq_true']
      exact ⟨by omega, hu⟩
     rw [h1, hpre] at hmem
     simp only [List.nil_append, List.mem_cons] at hmem
     rcases hmem with hmem | hmem
     ·omega
     ·
      have hpost : ∀ j ∈ remL ops.size listed, i ≤ j := by
       intro j hj
       unfold remL at hj hrem
       have hs : List.Pairwise (· < ·) ((List.range ops.size).filter fun i => !listed.getD i true) := List.Pairwise.filter _ List.pairwise_lt_range
       rw [hrem] at hs hj
       rcases List.mem_cons.1 hj with rfl | hj
       ·exact Nat.le_refl _
       ·exact Nat.le_of_lt (List.rel_of_pairwise_cons hs hj)
      have := hpost e.on (by rw [h1, hpre]; simp [hmem])
      omega
   rw [hr] at hmem
   cases hmem
 intro fuel
 induction fuel with
 | zero =>
  intro listed s a w h hsz hc hlen hsi hs
  have hrem : remL ops.size listed = [] := List.length_eq_zero_iff.1 (by omega)
  rw [hrem] at hs
  refine ⟨?_, hQ s a w h hsi hs⟩
  rw [List.eq_nil_iff_forall_not_mem]
  intro i hi
  obtain ⟨h1, o, ho, _⟩ := mem_ready.1 hi
  have : i ∈ remL ops.size listed := by
   unfold remL
   simp only [List.mem_filter, List.mem_range, Bool.not_eq_true']
   exact ⟨(Array.getElem?_eq_some_iff.1 ho).1, h1⟩
  rw [hrem] at this; cases this
 | succ fuel ih =>
  intro listed s a w h hsz hc hlen hsi hs
  refine ⟨fun hr => ?_, fun i hi => ?_⟩
  ·rw [done listed hsz hr] at hs
   exact hQ s a w h hsi hs
  ·obtain ⟨hil, o, ho, hall⟩ := mem_ready.1 hi
   have hin := (Array.getElem?_eq_some_iff.1 ho).1
   obtain ⟨pre, post, h1, h2, h3⟩ := remL_split hin hsz hil
   rw [h1] at hs
   have hnanc : ∀ j, listed.getD j true = false → ¬ Anc ops j i := by
    intro j hj hanc
    have hjf := getD_tf hj
    cases hanc with
    | edge ho' he hb hi' =>
     rw [ho] at ho'; cases ho'
     have := hall _ (by simpa using he) hb
     rw [hi', hjf] at this; cases this
    | step ho' he hb hi' =>
     rw [ho] at ho'; cases ho'
     have := hc.anc hi' (hall _ (by simpa using he) hb)
     rw [hjf] at this; cases this
   have hfr : runL cx eff ops k0 (i :: (pre ++ post)) s = some r := by
    cases hpre : pre with
    | nil => rw [hpre] at hs; exact hs
    | cons j0 pre0 =>
     rw [← hpre]
     have hj0 := h3 j0 (by rw [hpre]; simp)
     exact front hcx ho (hdst j0 i o hj0.1 ho (hnanc j0 hj0.2)) pre post hsi (fun j hj p hpj => hpair j i p o (h3 j hj).1 hpj ho (hnanc j (h3 j hj).2)) hs
   simp only [runL, ho] at hfr
   replace hfr := (runC_some hfr).2
   have hkey := runG_sound hcx.T hcx.nt hcx.C hcx.E hF hfr hsi (next := wpAnyIn F 0 P .any ops Q fuel (listed.setIfInBounds i true)) (Q := Q)
    ⟨fun s' a' w' h' hsi' hk => by
     refine ih (listed.setIfInBounds i true) (by simpa using hsz) ?_ ?_ hsi' (by rw [h2]; exact hk)
     ·intro j o' ho' hj e he hb
      by_cases hji : j = i
      ·subst hji
       rw [ho] at ho'; cases ho'
       have := hall e (by simpa using he) hb
       have hne : e.on ≠ j := by have := hlt j o ho e he hb; omega
       rw [Array.getD_eq_getD_getElem?] at this ⊢
       rw [Array.getElem?_setIfInBounds_ne (Ne.symm hne)]; exact this
      ·have hj' : listed.getD j false = true := by
        rw [Array.getD_eq_getD_getElem?] at hj ⊢
        rw [Array.getElem?_setIfInBounds_ne (Ne.symm hji)] at hj; exact hj
       have := hc j o' ho' hj' e he hb
       by_cases hei : e.on = i
       ·rw [hei, Array.getD_eq_getD_getElem?, Array.getElem?_setIfInBounds_self_of_lt (by omega)]; rfl
       ·rw [Array.getD_eq_getD_getElem?] at this ⊢
        rw [Array.getElem?_setIfInBounds_ne (Ne.symm hei)]; exact this
     ·rw [h2]
      rw [h1] at hlen
      simp at hlen ⊢
      omega, fun x s' a' w' h' v _ _ hk => by simp [nrm, noP] at hk⟩
   unfold wpOpIn
   simp only [ho]
   exact hkey
theorem SI.drew {s : St} {a : Act} {w : World} {h : Gh} (hsi : SI nt g0 h0 w0 s a w h) : SI nt g0 h0 w0 s a w.drew h := by
 have hb := below_drew w w.heap.size
 refine ⟨⟨hsi.fi.size, hsi.fi.tm_grow hb (fun _ _ => rfl) (fun _ _ _ => rfl) (fun _ _ => rfl) (fun _ _ => rfl), ?_, dfr_grow hsi.fi.dfr hb⟩, ?_, hsi.dp, hsi.lps, hsi.nd, hsi.dnew, hsi.lpd, hsi.bxd⟩
 ·exact hsi.fi.gi.grow hb (fun _ _ => rfl) hsi.fi.gi.lim (fun _ _ _ => rfl) (fun _ _ => rfl) (fun _ _ => rfl) hsi.fi.gi.gaBx hsi.fi.gi.gaInj hsi.fi.gi.gaC hsi.fi.gi.gaTop
 ·exact hsi.rel.grow hsi.fi.gi hb (fun _ _ => rfl) (fun _ _ _ h => ⟨h, rfl⟩) (fun _ _ => rfl) (fun _ _ _ _ => rfl) (fun d t b h1 h2 => .inr ⟨d, t, h1, h2⟩) (fun _ _ h => .inr h) (fun l hl => .inr ⟨hl, rfl⟩) (Nat.le_refl _)
theorem draw_sound (hmix : P.follows .mixedOrders = true) (hT : TyOk P cx.T) (hnt : cx.nt = nt) (hC : CSound P cx.C) (hE : ESound P cx.E) {F : Fence} (hF : IsF F) {id : Nat} {ops : Array Oper} {k : Ex → St → Option R} {r : R} {s : St}
  (hok : regionOk cx.hint.keep (cx.hint.eff id) ops = true) (hs : runOpsC cx (cx.hint.eff id) ops ops.toList 0 s (fun e s => match e with
   | .normal => k .normal s
   | _ => none) = some r) {Q : Exit → Act → World → Prop} (hk : NextOk k r nt g0 h0 w0 (Q .normal) Q) {a : Act} {w : World} {h : Gh} (hsi : SI nt g0 h0 w0 s a w h) :
  (Code.region id ops true).wpIn F 0 P Q a w := by
 unfold regionOk at hok
 rw [maskGo_eq] at hok
 simp only [Bool.and_eq_true] at hok
 obtain ⟨he, hg, hf⟩ := hok
 have hlt : ∀ j o, ops[j]? = some o → ∀ e ∈ o.after.toList, Region.binds .any e = true → e.on < j := fun j o ho => edgesOk_lt ops.toList 0 rfl he j o (Nat.zero_le _) ho
 have hanc : ∀ j i, ((masksOf ops.toList []).getD j 0).testBit i = true → Anc ops i j := masks_anc ops.toList [] rfl (by intro j i h; simp at h)
 have ancLt : ∀ i j, Anc ops i j → i < j := by
  intro i j h
  induction h with
  | edge ho he hb hi => rw [← hi]; exact hlt _ _ ho _ he hb
  | step ho he hb _ ih => exact Nat.lt_trans ih (hlt _ _ ho _ he hb)
 have hrow : ∀ j i p o, j < i → ops[j]? = some p → ops[i]? = some o → ¬ Anc ops j i → swaps (clsOp p.op) (clsOp o.op) = true ∧ Oper.apart ops p o = true ∧ dstOk p = true ∧ dstOk o = true := by
  intro j i p o hji hj hi hna
  rcases drawGo_get hg (j := j) (i := i) (p := p) (o := o) (by simpa using hj) (by simpa using hi) hji (Nat.zero_le _) with h | h
  ·exact absurd (hanc _ _ h) hna
  ·exact h
 have heff : ∀ k i p o, cx.hint.eff id k = true → ops[k]? = some o → isLoad (clsOp o.op) = false → ops[i]? = some p → i = k ∨ Anc ops i k ∨ Anc ops k i ∨ isPure (clsOp p.op) = true ∨ (cx.hint.keep = true ∧ (goCall o.op).isSome = true ∧ i < k ∧ cx.hint.eff id i = true ∧ isLoad (clsOp p.op) = true) := by
  intro k i p o hk ho hno hp
  have hks := (Array.getElem?_eq_some_iff.1 ho).1
  have := List.all_eq_true.1 hf k (List.mem_range.2 hks)
  rw [hk] at this
  simp only [Bool.not_true, Bool.false_or, isLoadAt, ho, hno] at this
  have h := effRow_get this (j := i) (p := p) (by simpa using hp)
  rw [Nat.zero_add] at h
  simp only [isCallAt, ho, Bool.and_eq_true] at h
  rcases h with h | h | h | h | h
  ·exact .inl h
  ·exact .inr (.inl (hanc _ _ h))
  ·exact .inr (.inr (.inl (hanc _ _ h)))
  ·exact .inr (.inr (.inr (.inl h)))
  ·exact .inr (.inr (.inr (.inr ⟨h.1.1, h.1.2, h.2⟩)))
 refine wpIn_region_any hmix ?_
 have hwd : ({ w with drawn := w.drawn + 1 } : World) = w.drew := rfl
 rw [hwd]
 have hrem : remL ops.size (Array.replicate ops.size false) = List.range ops.size := by
  unfold remL
  rw [List.filter_eq_self]
  intro i hi
  rw [Array.getD_eq_getD_getElem?, Array.getElem?_replicate, if_pos (List.mem_range.1 hi)]
  rfl
 have hs' : runOpsC cx (cx.hint.eff id) ops ops.toList 0 s (nrm noP fun s => k .normal s) = some r := by
  rw [← hs]
  congr 1
  funext e s
  cases e <;> rfl
 refine any_sound ⟨hT, hnt, hC, hE⟩ hF (eff := cx.hint.eff id) (k0 := fun s => k .normal s) (fun s' a' w' h' hsi' hk' => hk.1 s' a' w' h' hsi' hk') hlt ?_ (fun j i o hji hi hna => ?_) ops.size _ (by simp) ?_ ?_ hsi.drew ?_
 ·intro j i p o hji hj hi hna
  obtain ⟨r1, r2, r3, r4⟩ := hrow j i p o hji hj hi hna
  refine ⟨r1, r2, r3, r4, fun he1 => ?_, fun he2 => ?_⟩
  ·cases hl : isLoad (clsOp p.op) with
   | true => exact .inr rfl
   | false =>
    rcases heff j i o p he1 hj hl hi with h | h | h | h | h
    ·omega
    ·have := ancLt _ _ h; omega
    ·exact absurd h hna
    ·exact .inl h
    ·omega
  ·cases hl : isLoad (clsOp o.op) with
   | true => exact .inr (.inl rfl)
   | false =>
    rcases heff i j p o he2 hi hl hj with h | h | h | h | h
    ·omega
    ·exact absurd h hna
    ·have := ancLt _ _ h; omega
    ·exact .inl h
    ·exact .inr (.inr ⟨h.1, h.2.1, h.2.2.2.1, h.2.2.2.2⟩)
 ·have hjs : j < ops.size := Nat.lt_trans hji (Array.getElem?_eq_some_iff.1 hi).1
  exact (hrow j i ops[j] o hji (Array.getElem?_eq_getElem hjs) hi hna).2.2.2
 ·intro j o ho hj
  rw [Array.getD_eq_getD_getElem?, Array.getElem?_replicate] at hj
  split at hj <;> simp at hj
 ·rw [hrem]; simp
 ·rw [hrem, List.range_eq_range']
  have := runOps_runL (cx := cx) (eff := cx.hint.eff id) (ops := ops) (k0 := fun s => k .normal s) ops.toList 0 rfl s
  rw [Array.length_toList] at this
  rw [← this]; exact hs'
end
end Go.Abs
namespace Go.Abs
open Go
set_option linter.unusedVariables false
set_option linter.unusedSimpArgs false
set_option linter.unnecessarySimpa false
set_option linter.unusedSectionVars false
variable [Tabs]
section
variable {P : Program} {g0 : G} {h0 : Gh} {w0 : World} {nt : Nat} {R : Type} {cx : Cx R}
theorem runO_runL {ops : Array Oper} {k0 : St → Option R} : ∀ (l : List Nat) (s : St), runO cx ops l s k0 = runL cx (fun _ => false) ops k0 l s
 | [], s => rfl
 | i :: rest, s => by
  simp only [runO, runL]
  cases ops[i]? with
  | none => rfl
  | some o =>
   dsimp only
   congr 1
   refine nrm_eq _ (fun s' => ?_) (fun x s' => rfl) (fun e s' he _ => ?_)
   ·exact runO_runL rest s'
   ·cases e <;> first | exact absurd rfl he | rfl
theorem both_some [Same R] {x y : Option R} {r : R} (h : both x y = some r) : x = some r ∧ y = some r := by
 unfold both at h
 split at h
 ·rename_i a b
  split at h
  ·rename_i hs
   have := Same.eq a b hs
   cases h
   exact ⟨rfl, by rw [this]⟩
  ·cases h
 ·cases h
theorem runOs_all [Same R] {ops : Array Oper} {k0 : St → Option R} {r : R} : ∀ (os : List (List Nat)) (s : St), runOs cx ops os s k0 = some r → ∀ w ∈ os, runL cx (fun _ => false) ops k0 w s = some r
 | [], s, h, w, hw => by cases hw
 | w0 :: ws, s, h, w, hw => by
  unfold runOs at h
  cases ws with
  | nil =>
   simp only [List.mem_singleton] at hw
   subst hw
   rw [← runO_runL]; exact h
  | cons w1 ws =>
   dsimp only at h
   obtain ⟨h1, h2⟩ := both_some h
   rcases List.mem_cons.1 hw with rfl | hw
   ·rw [← runO_runL]; exact h1
   ·exact runOs_all (w1 :: ws) s h2 w hw
theorem befB_pos : ∀ {a : List Nat} {j i : Nat} {b : List Nat}, j ∈ a → i ∉ a → befB (a ++ i :: b) i j = false
 | x :: xs, j, i, b, hj, hi => by
  simp only [List.cons_append, befB]
  have hx : x ≠ i := fun e => hi (by simp [e])
  rw [if_neg (by simpa using hx)]
  split
  ·rfl
  ·rename_i hxj
   have hxj : x ≠ j := by simpa using hxj
   rcases List.mem_cons.1 hj with e | hj
   ·exact absurd e.symm hxj
   ·exact befB_pos hj (fun h => hi (by simp [h]))
structure Ordr (ops : Array Oper) (ms : List Nat) (cf : List (Nat × Nat)) (w : List Nat) : Prop where
 nodup : w.Nodup
 all : ∀ i, i < ops.size → i ∈ w
 lt : ∀ i ∈ w, i < ops.size
 pair : ∀ a i b, w = a ++ i :: b → ∀ o, ops[i]? = some o → (∀ e ∈ o.after.toList, Region.binds .any e = true → e.on ∈ a) ∧
  ∀ j ∈ a, (ms.getD i 0).testBit j = true ∨ confB cf j i = true ∨ ∃ p, ops[j]? = some p ∧ swaps (clsOp p.op) (clsOp o.op) = true ∧ Oper.apart ops p o = true ∧ dstOk p = true ∧ dstOk o = true
theorem listOk_spec {ops : Array Oper} {ms : List Nat} {cf : List (Nat × Nat)} : ∀ (l pre : List Nat), listOk ops ms cf l pre = true → pre.Nodup →
  (pre ++ l).Nodup ∧ (∀ i ∈ l, i < ops.size) ∧ ∀ a i b, l = a ++ i :: b → ∀ o, ops[i]? = some o → (∀ e ∈ o.after.toList, Region.binds .any e = true → e.on ∈ pre ++ a) ∧
  ∀ j ∈ pre ++ a, (ms.getD i 0).testBit j = true ∨ confB cf j i = true ∨ ∃ p, ops[j]? = some p ∧ swaps (clsOp p.op) (clsOp o.op) = true ∧ Oper.apart ops p o = true ∧ dstOk p = true ∧ dstOk o = true
 | [], pre, h, hn => ⟨by simpa using hn, by simp, fun a i b e => by simp at e⟩
 | i :: rest, pre, h, hn => by
  simp only [listOk, Bool.and_eq_true] at h
  obtain ⟨h1, h2⟩ := h
  cases ho : ops[i]? with
  | none => simp [ho] at h1
  | some o =>
   simp only [ho, Bool.and_eq_true, Bool.not_eq_true'] at h1
   obtain ⟨⟨h3, h4⟩, h5⟩ := h1
   have hni : i ∉ pre := by
    intro hm
    have : pre.any (Nat.beq i ·) = true := List.any_eq_true.2 ⟨i, hm, by simp⟩
    rw [h3] at this; cases this
   have hn' : (pre ++ [i]).Nodup := by
    rw [List.nodup_append]
    refine ⟨hn, by simp, ?_⟩
    intro x hx y hy
    simp at hy; subst hy
    intro e; subst e; exact hni hx
   obtain ⟨g1, g2, g3⟩ := listOk_spec rest (pre ++ [i]) h2 hn'
   have hlt : i < ops.size := (Array.getElem?_eq_some_iff.1 ho).1
   refine ⟨by simpa using g1, ?_, ?_⟩
   ·intro j hj
    rcases List.mem_cons.1 hj with rfl | hj
    ·exact hlt
    ·exact g2 j hj
   ·intro a i' b e o' ho'
    cases a with
    | nil =>
     simp only [List.nil_append, List.cons.injEq] at e
     obtain ⟨rfl, rfl⟩ := e
     rw [ho] at ho'; cases ho'
     refine ⟨?_, ?_⟩
     ·intro e he hb
      have := List.all_eq_true.1 h4 e he
      rw [hb] at this
      simp only [Bool.not_true, Bool.false_or] at this
      obtain ⟨x, hx, hxe⟩ := List.any_eq_true.1 this
      have : e.on = x := by simpa using hxe
      rw [this]; simpa using hx
     ·intro j hj
      rw [List.append_nil] at hj
      have := List.all_eq_true.1 h5 j hj
      simp only [Bool.or_eq_true] at this
      rcases this with (h | h) | h
      ·exact .inl h
      ·exact .inr (.inl h)
      ·refine .inr (.inr ?_)
       cases hp : ops[j]? with
       | none => rw [hp] at h; cases h
       | some p =>
        rw [hp] at h
        simp only [Bool.and_eq_true] at h
        exact ⟨p, rfl, h.1.1.1, h.1.1.2, h.1.2, h.2⟩
    | cons x a =>
     simp only [List.cons_append, List.cons.injEq] at e
     obtain ⟨rfl, e⟩ := e
     have := g3 a i' b e o' ho'
     simpa using this
theorem split_filter {w : List Nat} {i : Nat} {listed : Array Bool} (hn : w.Nodup) (hi : i ∈ w) (hil : listed.getD i true = false) (hlt : i < listed.size) :
  ∃ a b, w = a ++ i :: b ∧ i ∉ a ∧ w.filter (fun j => !listed.getD j true) = a.filter (fun j => !listed.getD j true) ++ i :: b.filter (fun j => !listed.getD j true) ∧
   w.filter (fun j => !(listed.setIfInBounds i true).getD j true) = a.filter (fun j => !listed.getD j true) ++ b.filter (fun j => !listed.getD j true) := by
 obtain ⟨a, b, rfl⟩ := List.append_of_mem hi
 rw [List.nodup_append] at hn
 obtain ⟨n1, n2, n3⟩ := hn
 have ha : i ∉ a := fun h => n3 i h i (by simp) rfl
 have hb : i ∉ b := (List.nodup_cons.1 n2).1
 refine ⟨a, b, rfl, ha, ?_, ?_⟩
 ·rw [List.filter_append, List.filter_cons]
  simp [hil]
 ·rw [List.filter_append, List.filter_cons]
  have hii : (listed.setIfInBounds i true).getD i true = true := by
   rw [Array.getD_eq_getD_getElem?, Array.getElem?_setIfInBounds_self_of_lt hlt]; rfl
  rw [hii]
  simp only [Bool.not_true, Bool.false_eq_true, if_false]
  congr 1
  ·refine List.filter_congr fun j hj => ?_
   have hji : j ≠ i := fun e => ha (e ▸ hj)
   rw [Array.getD_eq_getD_getElem?, Array.getD_eq_getD_getElem?, Array.getElem?_setIfInBounds_ne (Ne.symm hji)]
  ·refine List.filter_congr fun j hj => ?_
   have hji : j ≠ i := fun e => hb (e ▸ hj)
   rw [Array.getD_eq_getD_getElem?, Array.getD_eq_getD_getElem?, Array.getElem?_setIfInBounds_ne (Ne.symm hji)]
theorem confB_symm {cf : List (Nat × Nat)} {i j : Nat} (h : confB cf j i = true) : confB cf i j = true := by
 unfold confB at h ⊢
 obtain ⟨p, hp, h⟩ := List.any_eq_true.1 h
 refine List.any_eq_true.2 ⟨p, hp, ?_⟩
 simp only [Bool.or_eq_true] at h ⊢
 exact h.symm
def remS (listed : Array Bool) (S : List Nat) : List Nat := S.filter fun i => !listed.getD i true
theorem ord_sound (hcx : Cxt P cx nt) {F : Fence} (hF : IsF F) {ops : Array Oper} {ms : List Nat} {cf : List (Nat × Nat)} {k0 : St → Option R} {r : R} {Q : Exit → Act → World → Prop} (hQ : ∀ s' a' w' h', SI nt g0 h0 w0 s' a' w' h' → k0 s' = some r → Q .normal a' w')
  (hlt : ∀ j o, ops[j]? = some o → ∀ e ∈ o.after.toList, Region.binds .any e = true → e.on < j) (hanc : ∀ j i, (ms.getD j 0).testBit i = true → Anc ops i j) {S0 : List Nat} (hS0 : ∀ i j, i < ops.size → j < ops.size → confB cf j i = true → i ∈ S0) :
  ∀ (fuel : Nat) (listed : Array Bool) (n : Nat) (os : List (List Nat)) {s : St} {a : Act} {w : World} {h : Gh}, listed.size = ops.size → Closed ops listed → (remL ops.size listed).length ≤ fuel → SI nt g0 h0 w0 s a w h →
   covB ms cf n (remS listed S0) os = true → os ≠ [] → (∀ v ∈ os, Ordr ops ms cf v) → (∀ v ∈ os, runL cx (fun _ => false) ops k0 (v.filter fun j => !listed.getD j true) s = some r) →
   wpAnyIn F 0 P .any ops Q fuel listed a w := by
 have done : ∀ (listed : Array Bool), listed.size = ops.size → Region.ready .any ops listed = [] → remL ops.size listed = [] := by
  intro listed hsz hr
  cases hrem : remL ops.size listed with
  | nil => rfl
  | cons i rest =>
   exfalso
   have hi : i ∈ remL ops.size listed := by rw [hrem]; simp
   unfold remL at hi
   simp only [List.mem_filter, List.mem_range, Bool.not_eq_true'] at hi
   obtain ⟨hin, hil⟩ := hi
   have hpost : ∀ j ∈ remL ops.size listed, i ≤ j := by
    intro j hj
    unfold remL at hj hrem
    have hs : List.Pairwise (· < ·) ((List.range ops.size).filter fun i => !listed.getD i true) := List.Pairwise.filter _ List.pairwise_lt_range
    rw [hrem] at hs hj
    rcases List.mem_cons.1 hj with rfl | hj
    ·exact Nat.le_refl _
    ·exact Nat.le_of_lt (List.rel_of_pairwise_cons hs hj)
   have hmem : i ∈ Region.ready .any ops listed := by
    rw [mem_ready]
    refine ⟨hil, ops[i], Array.getElem?_eq_getElem hin, ?_⟩
    intro e he hb
    have hlt' := hlt i _ (Array.getElem?_eq_getElem hin) e (by simpa using he) hb
    by_cases hu : listed.getD e.on true = true
    ·exact getD_in (by omega) hu
    ·exfalso
     have hu : listed.getD e.on true = false := by simpa using hu
     have hmem : e.on ∈ remL ops.size listed := by
      unfold remL
      simp only [List.mem_filter, List.mem_range, Bool.not_eq_true']
      exact ⟨by omega, hu⟩
     have := hpost e.on hmem
     omega
   rw [hr] at hmem
   cases hmem
 have empty : ∀ (listed : Array Bool) (v : List Nat), Ordr ops ms cf v → remL ops.size listed = [] → (v.filter fun j => !listed.getD j true) = [] := by
  intro listed v hv hrem
  rw [List.filter_eq_nil_iff]
  intro i hi hc
  have : i ∈ remL ops.size listed := by
   unfold remL
   simp only [List.mem_filter, List.mem_range]
   exact ⟨hv.lt i hi, by simpa using hc⟩
  rw [hrem] at this; cases this
 intro fuel
 induction fuel with
 | zero =>
  intro listed n os s a w h hsz hc hlen hsi hcov hne hor hs
  have hrem : remL ops.size listed = [] := List.length_eq_zero_iff.1 (by omega)
  obtain ⟨v, hv⟩ := List.exists_mem_of_ne_nil os hne
  have hsv := hs v hv
  rw [empty listed v (hor v hv) hrem] at hsv
  refine ⟨?_, hQ s a w h hsi hsv⟩
  rw [List.eq_nil_iff_forall_not_mem]
  intro i hi
  obtain ⟨h1, o, ho, _⟩ := mem_ready.1 hi
  have : i ∈ remL ops.size listed := by
   unfold remL
   simp only [List.mem_filter, List.mem_range, Bool.not_eq_true']
   exact ⟨(Array.getElem?_eq_some_iff.1 ho).1, h1⟩
  rw [hrem] at this; cases this
 | succ fuel ih =>
  intro listed n os s a w h hsz hc hlen hsi hcov hne hor hs
  refine ⟨fun hr => ?_, fun i hi => ?_⟩
  ·obtain ⟨v, hv⟩ := List.exists_mem_of_ne_nil os hne
   have hsv := hs v hv
   rw [empty listed v (hor v hv) (done listed hsz hr)] at hsv
   exact hQ s a w h hsi hsv
  ·obtain ⟨hil, o, ho, hall⟩ := mem_ready.1 hi
   have hin := (Array.getElem?_eq_some_iff.1 ho).1
   have hnanc : ∀ j, listed.getD j true = false → ¬ Anc ops j i := by
    intro j hj hanc
    have hjf := getD_tf hj
    cases hanc with
    | edge ho' he hb hi' =>
     rw [ho] at ho'; cases ho'
     have := hall _ (by simpa using he) hb
     rw [hi', hjf] at this; cases this
    | step ho' he hb hi' =>
     rw [ho] at ho'; cases ho'
     have := hc.anc hi' (hall _ (by simpa using he) hb)
     rw [hjf] at this; cases this
   have next : ∃ (n' : Nat) (os' : List (List Nat)), os' ≠ [] ∧ (∀ v ∈ os', v ∈ os ∧ ∀ j ∈ remS listed S0, confB cf j i = true → befB v i j = true) ∧ covB ms cf n' (remS (listed.setIfInBounds i true) S0) os' = true := by
    by_cases hiS : i ∈ remS listed S0
    ·cases n with
     | zero =>
      simp only [covB, List.isEmpty_iff] at hcov
      rw [hcov] at hiS; cases hiS
     | succ n =>
      simp only [covB] at hcov
      have h1 := List.all_eq_true.1 hcov i hiS
      simp only [Bool.or_eq_true, Bool.and_eq_true, Bool.not_eq_true'] at h1
      rcases h1 with h1 | ⟨h1, h2⟩
      ·exfalso
       obtain ⟨j, hj, hb⟩ := List.any_eq_true.1 h1
       have hj2 : listed.getD j true = false := by
        simp only [remS, List.mem_filter, Bool.not_eq_true'] at hj
        exact hj.2
       exact hnanc j hj2 (hanc i j hb)
      ·refine ⟨n, os.filter fun w => (remS listed S0).all fun j => !confB cf j i || befB w i j, ?_, ?_, ?_⟩
       ·intro e; rw [e] at h1; cases h1
       ·intro v hv
        rw [List.mem_filter] at hv
        refine ⟨hv.1, fun j hj hcj => ?_⟩
        have := List.all_eq_true.1 hv.2 j hj
        rw [hcj] at this
        simpa using this
       ·have : (remS listed S0).filter (fun j => !Nat.beq j i) = remS (listed.setIfInBounds i true) S0 := by
         unfold remS
         rw [List.filter_filter]
         refine List.filter_congr fun j hj => ?_
         by_cases hji : j = i
         ·subst hji
          have e1 : (listed.setIfInBounds j true).getD j true = true := by
           rw [Array.getD_eq_getD_getElem?, Array.getElem?_setIfInBounds_self_of_lt (by omega)]; rfl
          rw [e1]
          simp
         ·have e1 : (listed.setIfInBounds i true).getD j true = listed.getD j true := by
           rw [Array.getD_eq_getD_getElem?, Array.getD_eq_getD_getElem?, Array.getElem?_setIfInBounds_ne (Ne.symm hji)]
          have e2 : Nat.beq j i = false := Bool.eq_false_iff.2 (by simpa using hji)
          rw [e1, e2]
          simp
        rw [← this]; exact h2
    ·refine ⟨n, os, hne, fun v hv => ⟨hv, fun j hj hcj => ?_⟩, ?_⟩
     ·exfalso
      have hjs : j < ops.size := by
       by_cases hjs : j < ops.size
       ·exact hjs
       ·simp only [remS, List.mem_filter, Bool.not_eq_true'] at hj
        have h2 := hj.2
        rw [Array.getD_eq_getD_getElem?, Array.getElem?_eq_none (by omega)] at h2
        simp at h2
      have : i ∈ remS listed S0 := by
       simp only [remS, List.mem_filter, Bool.not_eq_true']
       exact ⟨hS0 i j hin hjs hcj, hil⟩
      exact hiS this
     ·have : remS (listed.setIfInBounds i true) S0 = remS listed S0 := by
       unfold remS
       refine List.filter_congr fun j hj => ?_
       by_cases hji : j = i
       ·subst hji
        exfalso
        apply hiS
        simp only [remS, List.mem_filter, Bool.not_eq_true']
        exact ⟨hj, hil⟩
       ·rw [Array.getD_eq_getD_getElem?, Array.getD_eq_getD_getElem?, Array.getElem?_setIfInBounds_ne (Ne.symm hji)]
      rw [this]; exact hcov
   obtain ⟨n', os', hne', hos', hcov'⟩ := next
   have key : ∀ v ∈ os', ∃ s1, actG cx ops o s = some s1 ∧ runL cx (fun _ => false) ops k0 (v.filter fun j => !(listed.setIfInBounds i true).getD j true) s1 = some r := by
    intro v hv
    obtain ⟨hvo, hvb⟩ := hos' v hv
    have hov := hor v hvo
    obtain ⟨pa, pb, e1, e2, e3, e4⟩ := split_filter (listed := listed) hov.nodup (hov.all i hin) hil (by omega)
    have hsv := hs v hvo
    rw [e3] at hsv
    obtain ⟨p1, p2⟩ := hov.pair pa i pb e1 o ho
    have hpair : ∀ j ∈ pa.filter (fun j => !listed.getD j true), ∀ p, ops[j]? = some p → Pair ops p o false false := by
     intro j hj p hp
     simp only [List.mem_filter, Bool.not_eq_true'] at hj
     rcases p2 j hj.1 with h1 | h1 | ⟨p', hp', h1, h2, h3, h4⟩
     ·exact absurd (hanc i j h1) (hnanc j hj.2)
     ·exfalso
      have hjs : j < ops.size := (Array.getElem?_eq_some_iff.1 hp).1
      have hjS : j ∈ remS listed S0 := by
       simp only [remS, List.mem_filter, Bool.not_eq_true']
       exact ⟨hS0 j i hjs hin (confB_symm h1), hj.2⟩
      have hb := hvb j hjS h1
      rw [e1, befB_pos hj.1 e2] at hb
      cases hb
     ·rw [hp] at hp'; cases hp'
      exact ⟨h1, h2, h3, h4, (fun h => by cases h), (fun h => by cases h)⟩
    have hfr : runL cx (fun _ => false) ops k0 (i :: (pa.filter (fun j => !listed.getD j true) ++ pb.filter (fun j => !listed.getD j true))) s = some r := by
     cases hpre : pa.filter (fun j => !listed.getD j true) with
     | nil => rw [hpre] at hsv; exact hsv
     | cons j0 pre0 =>
      rw [← hpre]
      have hd : dstOk o = true := by
       have hj0 : j0 ∈ pa.filter (fun j => !listed.getD j true) := by rw [hpre]; simp
       have hj0' := hj0
       simp only [List.mem_filter, Bool.not_eq_true'] at hj0'
       have hjs : j0 < ops.size := hov.lt j0 (by rw [e1]; simp [hj0'.1])
       exact (hpair j0 hj0 _ (Array.getElem?_eq_getElem hjs)).d2
      exact front (eff := fun _ => false) hcx ho hd _ _ hsi (fun j hj p hpj => (fun q => ⟨q.sw, q.ap, q.d1, q.d2, (fun h => by cases h), (fun h => by cases h)⟩) (hpair j hj p hpj)) hsv
    simp only [runL, ho] at hfr
    replace hfr := (runC_some hfr).2
    rw [act_run] at hfr
    cases hact : actG cx ops o s with
    | none => simp [hact] at hfr
    | some s1 =>
     simp only [hact] at hfr
     exact ⟨s1, rfl, by rw [e4]; exact hfr⟩
   classical
   obtain ⟨v0, hv0⟩ := List.exists_mem_of_ne_nil os' hne'
   obtain ⟨s1, hact, _⟩ := key v0 hv0
   have hrun : runG cx false ops o s (nrm noP fun s' => if ∀ v ∈ os', runL cx (fun _ => false) ops k0 (v.filter fun j => !(listed.setIfInBounds i true).getD j true) s' = some r then some r else none) = some r := by
    rw [act_run, hact]
    dsimp only
    rw [if_pos]
    intro v hv
    obtain ⟨s2, h1, h2⟩ := key v hv
    rw [hact] at h1; cases h1
    exact h2
   have hkey := runG_sound hcx.T hcx.nt hcx.C hcx.E hF hrun hsi (next := wpAnyIn F 0 P .any ops Q fuel (listed.setIfInBounds i true)) (Q := Q)
    ⟨fun s' a' w' h' hsi' hk => by
     simp only [nrm] at hk
     split at hk
     case isFalse => cases hk
     rename_i hall'
     refine ih (listed.setIfInBounds i true) n' os' (by simpa using hsz) ?_ ?_ hsi' hcov' hne' (fun v hv => hor v (hos' v hv).1) hall'
     ·intro j o' ho' hj e he hb
      by_cases hji : j = i
      ·subst hji
       rw [ho] at ho'; cases ho'
       have := hall e (by simpa using he) hb
       have hne : e.on ≠ j := by have := hlt j o ho e he hb; omega
       rw [Array.getD_eq_getD_getElem?] at this ⊢
       rw [Array.getElem?_setIfInBounds_ne (Ne.symm hne)]; exact this
      ·have hj' : listed.getD j false = true := by
        rw [Array.getD_eq_getD_getElem?] at hj ⊢
        rw [Array.getElem?_setIfInBounds_ne (Ne.symm hji)] at hj; exact hj
       have := hc j o' ho' hj' e he hb
       by_cases hei : e.on = i
       ·rw [hei, Array.getD_eq_getD_getElem?, Array.getElem?_setIfInBounds_self_of_lt (by omega)]; rfl
       ·rw [Array.getD_eq_getD_getElem?] at this ⊢
        rw [Array.getElem?_setIfInBounds_ne (Ne.symm hei)]; exact this
     ·obtain ⟨pre, post, h1, h2, h3⟩ := remL_split hin hsz hil
      rw [h2]
      rw [h1] at hlen
      simp at hlen ⊢
      omega, fun x s' a' w' h' v _ _ hk => by simp [nrm, noP] at hk⟩
   unfold wpOpIn
   simp only [ho]
   exact hkey
theorem draw_ord [Same R] (hmix : P.follows .mixedOrders = true) (hT : TyOk P cx.T) (hnt : cx.nt = nt) (hC : CSound P cx.C) (hE : ESound P cx.E) {F : Fence} (hF : IsF F) {id : Nat} {ops : Array Oper} {k0 : St → Option R} {r : R} {s : St}
  {cf : List (Nat × Nat)} {os : List (List Nat)} (hok : ordOk cf os ops = true) (hs : runOs cx ops os s k0 = some r) {Q : Exit → Act → World → Prop} (hk : ∀ s' a' w' h', SI nt g0 h0 w0 s' a' w' h' → k0 s' = some r → Q .normal a' w') {a : Act} {w : World} {h : Gh} (hsi : SI nt g0 h0 w0 s a w h) :
  (Code.region id ops true).wpIn F 0 P Q a w := by
 unfold ordOk at hok
 rw [maskGo_eq] at hok
 simp only [Bool.and_eq_true, Bool.not_eq_true'] at hok
 obtain ⟨he, ⟨hne, hg⟩, hf⟩ := hok
 have hlt : ∀ j o, ops[j]? = some o → ∀ e ∈ o.after.toList, Region.binds .any e = true → e.on < j := fun j o ho => edgesOk_lt ops.toList 0 rfl he j o (Nat.zero_le _) ho
 have hanc : ∀ j i, ((masksOf ops.toList []).getD j 0).testBit i = true → Anc ops i j := masks_anc ops.toList [] rfl (by intro j i h; simp at h)
 have hor : ∀ v ∈ os, Ordr ops (masksOf ops.toList []) cf v := by
  intro v hv
  have := List.all_eq_true.1 hg v hv
  simp only [Bool.and_eq_true] at this
  obtain ⟨h1, h2⟩ := this
  obtain ⟨g1, g2, g3⟩ := listOk_spec v [] h1 List.nodup_nil
  refine ⟨by simpa using g1, ?_, g2, ?_⟩
  ·intro i hi
   have := List.all_eq_true.1 h2 i (List.mem_range.2 hi)
   obtain ⟨x, hx, hxe⟩ := List.any_eq_true.1 this
   have : i = x := by simpa using hxe
   rw [this]; exact hx
  ·intro a i b e o ho
   have := g3 a i b e o ho
   simpa using this
 refine wpIn_region_any hmix ?_
 have hwd : ({ w with drawn := w.drawn + 1 } : World) = w.drew := rfl
 rw [hwd]
 have hS0 : remS (Array.replicate ops.size false) ((List.range ops.size).filter fun i => (List.range ops.size).any fun j => confB cf j i) = (List.range ops.size).filter fun i => (List.range ops.size).any fun j => confB cf j i := by
  unfold remS
  rw [List.filter_eq_self]
  intro i hi
  simp only [List.mem_filter, List.mem_range] at hi
  rw [Array.getD_eq_getD_getElem?, Array.getElem?_replicate, if_pos hi.1]
  rfl
 refine ord_sound ⟨hT, hnt, hC, hE⟩ hF (ms := masksOf ops.toList []) (cf := cf) (k0 := k0) (r := r) hk hlt hanc (S0 := (List.range ops.size).filter fun i => (List.range ops.size).any fun j => confB cf j i) ?_ ops.size _ ops.size os (by simp) ?_ ?_ hsi.drew ?_ ?_ hor ?_
 ·intro i j hi hj hc
  simp only [List.mem_filter, List.mem_range]
  exact ⟨hi, List.any_eq_true.2 ⟨j, List.mem_range.2 hj, hc⟩⟩
 ·intro j o ho hj
  rw [Array.getD_eq_getD_getElem?, Array.getElem?_replicate] at hj
  split at hj <;> simp at hj
 ·unfold remL
  exact Nat.le_trans (List.length_filter_le _ _) (by simp)
 ·rw [hS0]; exact hf
 ·intro e; rw [e] at hne; cases hne
 ·intro v hv
  have : (v.filter fun j => !(Array.replicate ops.size false).getD j true) = v := by
   rw [List.filter_eq_self]
   intro i hi
   rw [Array.getD_eq_getD_getElem?, Array.getElem?_replicate, if_pos ((hor v hv).lt i hi)]
   rfl
  rw [this]
  exact runOs_all os s hs v hv
end
end Go.Abs
namespace Go.Abs
open Go
set_option linter.unusedVariables false
set_option linter.unusedSimpArgs false
set_option linter.unnecessarySimpa false
set_option linter.unusedSectionVars false
variable [Tabs]
theorem masksUpto_eq : ∀ (l : List Oper) (done : List Nat), masksUpto l done = masksOf l done
 | [], done => rfl
 | o :: rest, done => by simp only [masksUpto, masksOf]; exact masksUpto_eq rest _
section
variable {P : Program} {g0 : G} {h0 : Gh} {w0 : World} {nt : Nat} {R : Type} {cx : Cx R}
theorem runN_runL {eff : Nat → Bool} {ops : Array Oper} {k : St → Option R} : ∀ (l : List Nat) (s : St), runN cx eff ops l s k = runL cx eff ops k l s
 | [], s => rfl
 | i :: rest, s => by
  unfold runN runL
  cases ops[i]? with
  | none => rfl
  | some o =>
   dsimp only
   congr 1
   refine nrm_eq _ (fun s' => ?_) (fun x s' => rfl) (fun e s' he _ => ?_)
   ·exact runN_runL rest s'
   ·cases e <;> first | exact absurd rfl he | rfl
theorem runL_app {eff : Nat → Bool} {ops : Array Oper} {k : St → Option R} : ∀ (l m : List Nat) (s : St), runL cx eff ops (runL cx eff ops k m) l s = runL cx eff ops k (l ++ m) s
 | [], m, s => rfl
 | i :: l, m, s => by
  simp only [List.cons_append, runL]
  cases ops[i]? with
  | none => rfl
  | some o =>
   dsimp only
   congr 1
   congr 1
   funext s'
   exact runL_app l m s'
theorem pan_front {KP : D → G → Option R} {eff : Nat → Bool} {ops : Array Oper} {e : Nat} {o : Oper} (ho : ops[e]? = some o) (hgo : (goCall o.op).isSome = true) (hee : eff e = true) {K : St → Option R} {r : R} : ∀ (l : List Nat) {s : St},
  (∀ j ∈ l, ∀ p, ops[j]? = some p → PairC cx.hint.keep ops p o (eff j) (eff e) ∧ (isPure (clsOp p.op) = true ∨ isLoad (clsOp p.op) = true)) →
  runL cx eff ops (fun s => runC cx (eff e) ops o s (nrm KP K)) l s = some r → runC cx (eff e) ops o s (nrm KP (runL cx eff ops K l)) = some r
 | [], s, hp, hs => hs
 | j :: l, s, hp, hs => by
  have hcall : clsOp o.op = .call := by
   obtain ⟨x, hx⟩ := Option.isSome_iff_exists.1 hgo
   exact goCall_cls hx
  have hno : isLoad (clsOp o.op) = false := by rw [hcall]; rfl
  simp only [runL] at hs
  cases hj : ops[j]? with
  | none => simp [hj] at hs
  | some p =>
   simp only [hj] at hs
   obtain ⟨pj, hcl⟩ := hp j (by simp) p hj
   obtain ⟨hc1, hs⟩ := runC_some hs
   obtain ⟨a1, a2, a3⟩ := Oper.apart_spec pj.ap
   have hc : isReader (clsOp p.op) = true := by
    rcases hcl with h | h
    ·cases hq : clsOp p.op <;> rw [hq] at h <;> simp_all [isPure] <;> rfl
    ·obtain ⟨t, q, hq⟩ := cls_load h
     rw [hq]; rfl
   have hd : ∃ d, p.dst = some d := by
    rcases hcl with h | h
    ·have hq : clsOp p.op = .pure := by cases hq : clsOp p.op <;> rw [hq] at h <;> simp_all [isPure]
     exact dst_of pj.d1 (by rw [hq]; simp) (by rw [hq]; simp)
    ·obtain ⟨t, q, hq⟩ := cls_load h
     exact dst_of pj.d1 (by rw [hq]; simp [clsOp]) (by rw [hq]; simp [clsOp])
   obtain ⟨d, hd⟩ := hd
   rw [reader_run hc hd] at hs
   by_cases hlt : Nat.blt d cx.nt = true
   case neg => rw [if_neg hlt] at hs; cases hs
   rw [if_pos hlt] at hs
   cases hv : valR cx.T ops p s with
   | none => rw [hv] at hs; cases hs
   | some v =>
    rw [hv] at hs
    simp only at hs
    have ih := pan_front ho hgo hee l (s := sU s d v) (fun j hj => hp j (by simp [hj])) hs
    rw [runC_nl hno] at ih
    have h1 : runG cx (eff j) ops p s (nrm KP fun s1 => runG cx (eff e) ops o s1 (nrm KP (runL cx eff ops K l))) = some r := by
     rw [reader_run hc hd, if_pos hlt, hv]
     exact ih
    have fin : (∀ t q a, p.op = .load t q → ev s.tm q = some a → bxB cx (eff e) o s a) → (isLoad (clsOp p.op) = false ∨ (cx.hint.keep = true ∧ eff j = true ∧ isLoad (clsOp p.op) = true)) → runC cx (eff e) ops o s (nrm KP (runL cx eff ops K (j :: l))) = some r := by
     intro hb hk
     have h2 := past_reader hc hd pj.ap hb h1
     rw [runC_nl hno, ← h2]
     obtain ⟨φ, ⟨p', rfl⟩, _, h3⟩ := runG_upd (cx := cx) (eff := eff e) (o := o) (ops := ops) (s := s) (d := d) (operFree_of (a1 d hd)) (a2 d hd)
     refine h3 KP _ _ fun s1 q1 q2 => ?_
     simp only [runL, hj]
     rcases hk with hk | ⟨k1, k2, k3⟩
     ·rw [runC_nl hk, reader_run hc hd, reader_run hc hd]
     ·obtain ⟨t, q, hq⟩ := cls_load k3
      have hown := hc1 k2
      obtain ⟨x, hx⟩ : ∃ x, ev s.tm q = some x := by
       cases hx : ev s.tm q with
       | none => unfold ownLd at hown; rw [hq] at hown; simp [hx] at hown
       | some x => exact ⟨x, rfl⟩
      rw [runC_of (fun _ => by
       rw [ownLd_dem (p := p') (ops := ops) (fun t ht => q1 t fun e => a3 t e ht) (q2 x (hb t q x hq hx)).1]
       exact hown), reader_run hc hd, reader_run hc hd]
    cases hl : isLoad (clsOp p.op) with
    | false => exact fin (fun t q a h _ => by rw [h] at hl; cases hl) (.inl hl)
    | true =>
     rcases pj.f2 hee with h1 | h1 | ⟨hkeep, _, he1, _⟩
     ·obtain ⟨t, q, hq⟩ := cls_load hl
      rw [hq] at h1; cases h1
     ·rw [hno] at h1; cases h1
     ·refine fin (fun t q a h ha => ?_) (.inr ⟨hkeep, he1, hl⟩)
      have hown := hc1 he1
      unfold ownLd at hown
      rw [h] at hown
      simp only [ha] at hown
      cases a with
      | ptr d' u off =>
       simp only at hown
       have := Nat.eq_of_beq_eq_true hown
       subst this
       exact .inr ⟨hkeep, hcall, u, off, rfl⟩
      | _ => cases hown
theorem SI.bare {s : St} {a : Act} {w : World} {h : Gh} (hsi : SI nt g0 h0 w0 s a w h) : SI nt g0 h0 w0 (bareSt s.g) a w h :=
 ⟨⟨hsi.fi.size, (fun t v hv => by cases hv), hsi.fi.gi, hsi.fi.dfr⟩, hsi.rel, hsi.dp, hsi.lps, hsi.nd, hsi.dnew, hsi.lpd, hsi.bxd⟩
def remO (L : List Nat) (listed : Array Bool) : List Nat := L.filter fun i => !listed.getD i true
theorem set_get {listed : Array Bool} {i j : Nat} (hi : i < listed.size) : (listed.setIfInBounds i true).getD j true = (if j = i then true else listed.getD j true) := by
 by_cases h : j = i
 ·subst h
  rw [Array.getD_eq_getD_getElem?, Array.getElem?_setIfInBounds_self_of_lt hi, if_pos rfl]; rfl
 ·rw [if_neg h, Array.getD_eq_getD_getElem?, Array.getD_eq_getD_getElem?, Array.getElem?_setIfInBounds_ne (Ne.symm h)]
theorem remO_split {L : List Nat} {i : Nat} {listed : Array Bool} (hn : i ∈ L) (hnd : L.Nodup) (hsz : i < listed.size) (hi : listed.getD i true = false) : ∃ A B pre post, L = A ++ i :: B ∧ remO L listed = pre ++ i :: post ∧ remO L (listed.setIfInBounds i true) = pre ++ post ∧ pre = remO A listed := by
 obtain ⟨A, B, rfl⟩ := List.append_of_mem hn
 have hA : ∀ j ∈ A, j ≠ i := fun j hj e => by
  subst e
  exact (List.nodup_append.1 hnd).2.2 j hj j (List.mem_cons_self ..) rfl
 have hB : ∀ j ∈ B, j ≠ i := fun j hj e => by
  subst e
  exact (List.nodup_cons.1 (List.nodup_append.1 hnd).2.1).1 hj
 refine ⟨A, B, remO A listed, remO B listed, rfl, ?_, ?_, rfl⟩
 ·unfold remO
  rw [List.filter_append, List.filter_cons]
  simp [hi]
 ·unfold remO
  rw [List.filter_append, List.filter_cons]
  have hii : (listed.setIfInBounds i true).getD i true = true := by rw [set_get hsz, if_pos rfl]
  rw [hii]
  simp only [Bool.not_true, Bool.false_eq_true, if_false]
  congr 1
  ·refine List.filter_congr fun j hj => ?_
   rw [set_get hsz, if_neg (hA j hj)]
  ·refine List.filter_congr fun j hj => ?_
   rw [set_get hsz, if_neg (hB j hj)]
theorem remO_other {L : List Nat} {i : Nat} {listed : Array Bool} (hn : i ∉ L) (hsz : i < listed.size) : remO L (listed.setIfInBounds i true) = remO L listed := by
 unfold remO
 refine List.filter_congr fun j hj => ?_
 rw [set_get hsz, if_neg (fun e => hn (by rw [← e]; exact hj))]
theorem split_uniq {i : Nat} : ∀ {X Y A B : List Nat}, (X ++ i :: Y).Nodup → X ++ i :: Y = A ++ i :: B → X = A
 | [], Y, [], B, _, _ => rfl
 | [], Y, a :: A, B, hn, h => by
  obtain ⟨rfl, h2⟩ := List.cons.inj h
  exfalso
  refine (List.nodup_cons.1 hn).1 ?_
  rw [h2]; simp
 | x :: X, Y, [], B, hn, h => by
  obtain ⟨rfl, h2⟩ := List.cons.inj h
  exact absurd (by simp : x ∈ X ++ x :: Y) (List.nodup_cons.1 hn).1
 | x :: X, Y, a :: A, B, hn, h => by
  obtain ⟨rfl, h2⟩ := List.cons.inj h
  rw [split_uniq (List.nodup_cons.1 hn).2 h2]
theorem Closed.set {ops : Array Oper} {listed : Array Bool} {i : Nat} {o : Oper} (hc : Closed ops listed) (ho : ops[i]? = some o) (hsz : listed.size = ops.size) (hall : ∀ e ∈ o.after.toList, Region.binds .any e = true → listed.getD e.on false = true) (hne : ∀ e ∈ o.after.toList, Region.binds .any e = true → e.on ≠ i) :
  Closed ops (listed.setIfInBounds i true) := by
 have hin := (Array.getElem?_eq_some_iff.1 ho).1
 have keep : ∀ j, listed.getD j false = true → (listed.setIfInBounds i true).getD j false = true := by
  intro j hj
  by_cases hji : j = i
  ·subst hji
   rw [Array.getD_eq_getD_getElem?, Array.getElem?_setIfInBounds_self_of_lt (by omega)]; rfl
  ·rw [Array.getD_eq_getD_getElem?] at hj ⊢
   rw [Array.getElem?_setIfInBounds_ne (Ne.symm hji)]; exact hj
 intro j o' ho' hj e he hb
 by_cases hji : j = i
 ·subst hji
  rw [ho] at ho'; cases ho'
  exact keep _ (hall e he hb)
 ·have hj' : listed.getD j false = true := by
   rw [Array.getD_eq_getD_getElem?] at hj ⊢
   rw [Array.getElem?_setIfInBounds_ne (Ne.symm hji)] at hj; exact hj
  exact keep _ (hc j o' ho' hj' e he hb)
structure Line (keep : Bool) (eff : Nat → Bool) (ops : Array Oper) (L : List Nat) : Prop where
 nd : L.Nodup
 mem : ∀ i, i ∈ L ↔ i < ops.size
 dep : ∀ A i B, L = A ++ i :: B → ∀ o, ops[i]? = some o → ∀ x ∈ o.after.toList, Region.binds .any x = true → x.on ∈ A
 pair : ∀ A i B, L = A ++ i :: B → ∀ j ∈ A, ¬ Anc ops j i → ∀ p o, ops[j]? = some p → ops[i]? = some o → PairC keep ops p o (eff j) (eff i)
theorem line_sound (hcx : Cxt P cx nt) {F : Fence} (hF : IsF F) {eff : Nat → Bool} {ops : Array Oper} {k0 : St → Option R} {r : R} {Q : Exit → Act → World → Prop} (hQ : ∀ s' a' w' h', SI nt g0 h0 w0 s' a' w' h' → k0 s' = some r → Q .normal a' w')
  {L : List Nat} (hL : Line cx.hint.keep eff ops L) {e : Nat} {is ds : List Nat} (hLe : L = is ++ e :: ds) {oe : Oper} (hoe : ops[e]? = some oe) (hgo : (goCall oe.op).isSome = true) (hee : eff e = true)
  (hrd : ∀ j ∈ is, ∀ p, ops[j]? = some p → isPure (clsOp p.op) = true ∨ isLoad (clsOp p.op) = true) (hds : ∀ d ∈ ds, Anc ops e d) {KP : D → G → Option R} (hKP : ∀ x s' a' w' h' v, SI nt g0 h0 w0 s' a' w' h' → RepV w' h'.L x v → KP x s'.g = some r → Q (.panic [{ v, recovered := false }]) a' w') :
  ∀ (fuel : Nat) (listed : Array Bool) {s : St} {a : Act} {w : World} {h : Gh}, listed.size = ops.size → Closed ops listed → (remO L listed).length ≤ fuel → SI nt g0 h0 w0 s a w h →
   (listed.getD e true = true → runL cx eff ops k0 (remO (is ++ ds) listed) s = some r) →
   (listed.getD e true = false → runL cx eff ops (fun s => runC cx (eff e) ops oe s (nrm KP (runL cx eff ops k0 ds))) (remO is listed) s = some r) →
   wpAnyIn F 0 P .any ops Q fuel listed a w := by
 have hndL := hL.nd
 rw [hLe] at hndL
 have heis : e ∉ is := fun h => (List.nodup_append.1 hndL).2.2 e h e (List.mem_cons_self ..) rfl
 have heds : e ∉ ds := (List.nodup_cons.1 (List.nodup_append.1 hndL).2.1).1
 have hdisj : ∀ j ∈ is, j ∉ ds := fun j hj h => (List.nodup_append.1 hndL).2.2 j hj j (List.mem_cons_of_mem _ h) rfl
 have hlist : ∀ {listed : Array Bool} {j : Nat}, j < listed.size → listed.getD j true = listed.getD j false := fun {listed} {j} hj => by
  rw [Array.getD_eq_getD_getElem?, Array.getD_eq_getD_getElem?, Array.getElem?_eq_getElem hj]; rfl
 have hnanc : ∀ {listed : Array Bool} {i : Nat} {o : Oper}, Closed ops listed → ops[i]? = some o → (∀ x ∈ o.after.toList, Region.binds .any x = true → listed.getD x.on false = true) → ∀ j, listed.getD j true = false → ¬ Anc ops j i := by
  intro listed i o hc ho hall j hj hanc
  have hjf := getD_tf hj
  cases hanc with
  | edge ho' he hb hi' =>
   rw [ho] at ho'; cases ho'
   have := hall _ he hb
   rw [hi', hjf] at this; cases this
  | step ho' he hb hi' =>
   rw [ho] at ho'; cases ho'
   have := hc.anc hi' (hall _ he hb)
   rw [hjf] at this; cases this
 have done : ∀ (listed : Array Bool), listed.size = ops.size → Region.ready .any ops listed = [] → remO L listed = [] := by
  intro listed hsz hr
  cases hrem : remO L listed with
  | nil => rfl
  | cons i rest =>
   exfalso
   have hi : i ∈ remO L listed := by rw [hrem]; simp
   unfold remO at hi
   simp only [List.mem_filter, Bool.not_eq_true'] at hi
   obtain ⟨hin, hil⟩ := hi
   have hlt := (hL.mem i).1 hin
   obtain ⟨A, B, pre, post, hA, h1, _, h3⟩ := remO_split hin hL.nd (by omega) hil
   have hpre : pre = [] := by
    cases pre with
    | nil => rfl
    | cons j pre' =>
     exfalso
     rw [hrem] at h1
     obtain ⟨rfl, _⟩ := List.cons.inj h1
     have : i ∈ A := by
      have hm : i ∈ remO A listed := by rw [← h3]; simp
      exact (List.mem_filter.1 hm).1
     have hnd := hL.nd
     rw [hA] at hnd
     exact (List.nodup_append.1 hnd).2.2 i this i (List.mem_cons_self ..) rfl
   have hmem : i ∈ Region.ready .any ops listed := by
    rw [mem_ready]
    refine ⟨hil, ops[i], Array.getElem?_eq_getElem hlt, ?_⟩
    intro x hx hb
    have hxA := hL.dep A i B hA _ (Array.getElem?_eq_getElem hlt) x (by simpa using hx) hb
    have hxlt : x.on < ops.size := (hL.mem _).1 (by rw [hA]; simp [hxA])
    by_cases hu : listed.getD x.on true = true
    ·rw [← hlist (by omega)]; exact hu
    ·exfalso
     have hm : x.on ∈ remO A listed := List.mem_filter.2 ⟨hxA, by simpa using hu⟩
     rw [← h3, hpre] at hm
     cases hm
   rw [hr] at hmem
   cases hmem
 have fin : ∀ (listed : Array Bool) {s : St} {a : Act} {w : World} {h : Gh}, listed.size = ops.size → remO L listed = [] → SI nt g0 h0 w0 s a w h → (listed.getD e true = true → runL cx eff ops k0 (remO (is ++ ds) listed) s = some r) → Q .normal a w := by
  intro listed s a w h hsz hrem hsi h1
  have hall : ∀ j ∈ L, listed.getD j true = true := fun j hj => by
   cases hc : listed.getD j true with
   | true => rfl
   | false =>
    have : j ∈ remO L listed := List.mem_filter.2 ⟨hj, by rw [hc]; rfl⟩
    rw [hrem] at this; cases this
  have he := hall e (by rw [hLe]; simp)
  have h2 := h1 he
  have h3 : remO (is ++ ds) listed = [] := by
   unfold remO
   rw [List.filter_eq_nil_iff]
   intro j hj
   have := hall j (by rw [hLe]; simp at hj ⊢; rcases hj with h | h <;> simp [h])
   rw [this]; simp
  rw [h3] at h2
  exact hQ s a w h hsi h2
 intro fuel
 induction fuel with
 | zero =>
  intro listed s a w h hsz hc hlen hsi h1 h2
  have hrem : remO L listed = [] := List.length_eq_zero_iff.1 (by omega)
  refine ⟨?_, fin listed hsz hrem hsi h1⟩
  rw [List.eq_nil_iff_forall_not_mem]
  intro i hi
  obtain ⟨q1, o, ho, _⟩ := mem_ready.1 hi
  have : i ∈ remO L listed := List.mem_filter.2 ⟨(hL.mem i).2 (Array.getElem?_eq_some_iff.1 ho).1, by rw [q1]; rfl⟩
  rw [hrem] at this; cases this
 | succ fuel ih =>
  intro listed s a w h hsz hc hlen hsi h1 h2
  refine ⟨fun hr => fin listed hsz (done listed hsz hr) hsi h1, fun i hi => ?_⟩
  obtain ⟨hil, o, ho, hall⟩ := mem_ready.1 hi
  have hin := (Array.getElem?_eq_some_iff.1 ho).1
  have hall' : ∀ x ∈ o.after.toList, Region.binds .any x = true → listed.getD x.on false = true := fun x hx hb => hall x (by simpa using hx) hb
  have hna := hnanc hc ho hall'
  have hiL := (hL.mem i).2 hin
  obtain ⟨A, B, pre, post, hA, r1, r2, r3⟩ := remO_split hiL hL.nd (by omega) hil
  have hdepne : ∀ x ∈ o.after.toList, Region.binds .any x = true → x.on ≠ i := fun x hx hb e => by
   have := hL.dep A i B hA o ho x hx hb
   have hnd := hL.nd
   rw [hA] at hnd
   rw [e] at this
   exact (List.nodup_append.1 hnd).2.2 i this i (List.mem_cons_self ..) rfl
  have hc' := hc.set ho hsz hall' hdepne
  have hsz' : (listed.setIfInBounds i true).size = ops.size := by simpa using hsz
  have hlen' : (remO L (listed.setIfInBounds i true)).length ≤ fuel := by
   rw [r2]
   rw [r1] at hlen
   simp at hlen ⊢
   omega
  have hge : ∀ j, (listed.setIfInBounds i true).getD j true = (if j = i then true else listed.getD j true) := fun j => set_get (by omega)
  have hpair : ∀ {M : List Nat} {pre' : List Nat} {A' B' : List Nat}, L = A' ++ i :: B' → (∀ j ∈ pre', j ∈ A' ∧ listed.getD j true = false) → ∀ j ∈ pre', ∀ p, ops[j]? = some p → PairC cx.hint.keep ops p o (eff j) (eff i) := by
   intro M pre' A' B' hLA hpre' j hj p hp
   obtain ⟨q1, q2⟩ := hpre' j hj
   exact hL.pair A' i B' hLA j q1 (hna j q2) p o hp ho
  unfold wpOpIn
  simp only [ho]
  by_cases hie : i = e
  ·
   subst hie
   rw [hoe] at ho; cases ho
   have hs := h2 hil
   have hfr := pan_front (KP := KP) hoe hgo hee (remO is listed) (fun j hj p hp => by
    have hj' := List.mem_filter.1 hj
    refine ⟨?_, hrd j hj'.1 p hp⟩
    exact hL.pair is i ds hLe j hj'.1 (hna j (by simpa using hj'.2)) p oe hp hoe) hs
   replace hfr := (runC_some hfr).2
   refine runG_sound hcx.T hcx.nt hcx.C hcx.E hF hfr hsi (next := wpAnyIn F 0 P .any ops Q fuel (listed.setIfInBounds i true)) (Q := Q) ⟨fun s' a' w' h' hsi' hk => ?_, fun x s' a' w' h' v hsi' hv hk => hKP x s' a' w' h' v hsi' hv hk⟩
   refine ih _ hsz' hc' hlen' hsi' (fun _ => ?_) (fun hf => by rw [hge, if_pos rfl] at hf; cases hf)
   have e1 : remO (is ++ ds) (listed.setIfInBounds i true) = remO is listed ++ ds := by
    rw [remO_other (by simp [heis, heds]) (by omega)]
    unfold remO
    rw [List.filter_append]
    congr 1
    rw [List.filter_eq_self]
    intro d hd
    cases hld : listed.getD d true with
    | false => rfl
    | true =>
     exfalso
     have hdlt : d < listed.size := by
      have := (hL.mem d).1 (by rw [hLe]; simp [hd])
      omega
     have := hc.anc (hds d hd) (by rw [← hlist hdlt]; exact hld)
     rw [getD_tf hil] at this; cases this
   rw [e1, ← runL_app]
   exact hk
  ·by_cases hle : listed.getD e true = true
   ·
    have hs := h1 hle
    have him : i ∈ is ++ ds := by
     rw [hLe] at hiL
     simp at hiL ⊢
     rcases hiL with h | h | h
     ·exact .inl h
     ·exact absurd h hie
     ·exact .inr h
    have hnd2 : (is ++ ds).Nodup := by
     rw [List.nodup_append] at hndL ⊢
     exact ⟨hndL.1, (List.nodup_cons.1 hndL.2.1).2, fun a ha b hb => hndL.2.2 a ha b (List.mem_cons_of_mem _ hb)⟩
    obtain ⟨A2, B2, pre2, post2, hA2, s1, s2, s3⟩ := remO_split him hnd2 (by omega) hil
    have hsub : ∃ A3 B3, L = A3 ++ i :: B3 ∧ ∀ j ∈ A2, j ∈ A3 := by
     by_cases hi1 : i ∈ is
     ·obtain ⟨X, Y, hXY⟩ := List.append_of_mem hi1
      refine ⟨X, Y ++ e :: ds, by rw [hLe, hXY]; simp, fun j hj => ?_⟩
      have : A2 = X := by
       have hh : X ++ i :: (Y ++ ds) = A2 ++ i :: B2 := by rw [← hA2, hXY]; simp
       exact (split_uniq (by rw [hh, ← hA2]; exact hnd2) hh).symm
      rw [← this]; exact hj
     ·have hi2 : i ∈ ds := by simp at him; exact him.resolve_left hi1
      obtain ⟨X, Y, hXY⟩ := List.append_of_mem hi2
      refine ⟨is ++ e :: X, Y, by rw [hLe, hXY]; simp, fun j hj => ?_⟩
      have : A2 = is ++ X := by
       have hh : (is ++ X) ++ i :: Y = A2 ++ i :: B2 := by rw [← hA2, hXY]; simp
       exact (split_uniq (by rw [hh, ← hA2]; exact hnd2) hh).symm
      rw [this] at hj
      simp at hj ⊢
      rcases hj with h | h
      ·exact .inl h
      ·exact .inr (.inr h)
    obtain ⟨A3, B3, hL3, hA3⟩ := hsub
    have hp := hpair (M := []) (pre' := pre2) hL3 (fun j hj => by
     rw [s3] at hj
     have := List.mem_filter.1 hj
     exact ⟨hA3 j this.1, by simpa using this.2⟩)
    rw [s1] at hs
    have hfr : runL cx eff ops k0 (i :: (pre2 ++ post2)) s = some r := by
     cases hpre : pre2 with
     | nil => rw [hpre] at hs; exact hs
     | cons j0 pre0 =>
      rw [← hpre]
      have hj0 : j0 ∈ pre2 := by rw [hpre]; simp
      have hj0s : j0 < ops.size := by
       rw [s3] at hj0
       have hm := (List.mem_filter.1 hj0).1
       exact (hL.mem _).1 (by rw [hL3]; simp [hA3 _ hm])
      exact front hcx ho (hp j0 hj0 _ (Array.getElem?_eq_getElem hj0s)).d2 pre2 post2 hsi hp hs
    simp only [runL, ho] at hfr
    replace hfr := (runC_some hfr).2
    refine runG_sound hcx.T hcx.nt hcx.C hcx.E hF hfr hsi (next := wpAnyIn F 0 P .any ops Q fuel (listed.setIfInBounds i true)) (Q := Q) ⟨fun s' a' w' h' hsi' hk => ?_, fun x s' a' w' h' v _ _ hk => by simp [nrm, noP] at hk⟩
    refine ih _ hsz' hc' hlen' hsi' (fun _ => by rw [s2]; exact hk) (fun hf => ?_)
    rw [hge, if_neg (Ne.symm hie), hle] at hf; cases hf
   ·
    have hle : listed.getD e true = false := by simpa using hle
    have hs := h2 hle
    have him : i ∈ is := by
     rw [hLe] at hiL
     simp at hiL
     rcases hiL with h | h | h
     ·exact h
     ·exact absurd h hie
     ·exact absurd (hds i h) (hna e hle)
    have hnd2 : is.Nodup := (List.nodup_append.1 hndL).1
    obtain ⟨A2, B2, pre2, post2, hA2, s1, s2, s3⟩ := remO_split him hnd2 (by omega) hil
    have hL3 : L = A2 ++ i :: (B2 ++ e :: ds) := by rw [hLe, hA2]; simp
    have hp := hpair (M := []) (pre' := pre2) hL3 (fun j hj => by
     rw [s3] at hj
     have := List.mem_filter.1 hj
     exact ⟨this.1, by simpa using this.2⟩)
    rw [s1] at hs
    have hfr : runL cx eff ops (fun s => runC cx (eff e) ops oe s (nrm KP (runL cx eff ops k0 ds))) (i :: (pre2 ++ post2)) s = some r := by
     cases hpre : pre2 with
     | nil => rw [hpre] at hs; exact hs
     | cons j0 pre0 =>
      rw [← hpre]
      have hj0 : j0 ∈ pre2 := by rw [hpre]; simp
      have hj0s : j0 < ops.size := by
       rw [s3] at hj0
       have hm := (List.mem_filter.1 hj0).1
       exact (hL.mem _).1 (by rw [hL3]; simp [hm])
      exact front hcx ho (hp j0 hj0 _ (Array.getElem?_eq_getElem hj0s)).d2 pre2 post2 hsi hp hs
    simp only [runL, ho] at hfr
    replace hfr := (runC_some hfr).2
    refine runG_sound hcx.T hcx.nt hcx.C hcx.E hF hfr hsi (next := wpAnyIn F 0 P .any ops Q fuel (listed.setIfInBounds i true)) (Q := Q) ⟨fun s' a' w' h' hsi' hk => ?_, fun x s' a' w' h' v _ _ hk => by simp [nrm, noP] at hk⟩
    refine ih _ hsz' hc' hlen' hsi' (fun hf => ?_) (fun _ => by rw [s2]; exact hk)
    rw [hge, if_neg (Ne.symm hie), hle] at hf; cases hf
theorem pairB_get {keep : Bool} {ops : Array Oper} {p o : Oper} {e1 e2 : Bool} (h : pairB keep ops p o e1 e2 = true) : PairC keep ops p o e1 e2 := by
 unfold pairB at h
 simp only [Bool.and_eq_true, Bool.or_eq_true, Bool.not_eq_true'] at h
 obtain ⟨⟨⟨⟨⟨h1, h2⟩, h3⟩, h4⟩, h5⟩, h6⟩ := h
 refine ⟨h1, h2, h3, h4, fun he => ?_, fun he => ?_⟩
 ·rcases h5 with (h | h) | h
  ·rw [he] at h; cases h
  ·exact .inl h
  ·exact .inr h
 ·rcases h6 with ((h | h) | h) | h
  ·rw [he] at h; cases h
  ·exact .inl h
  ·exact .inr (.inl h)
  ·exact .inr (.inr ⟨h.1.1.1, h.1.1.2, h.1.2, h.2⟩)
theorem pairsB_get {keep : Bool} {eff : Nat → Bool} {ops : Array Oper} {ms : List Nat} {i : Nat} : ∀ {js : List Nat}, pairsB keep eff ops ms i js = true → ∀ j ∈ js, (ms.getD i 0).testBit j = true ∨ ∀ p o, ops[j]? = some p → ops[i]? = some o → PairC keep ops p o (eff j) (eff i)
 | [], _, j, hj => by cases hj
 | q :: js, h, j, hj => by
  simp only [pairsB, Bool.and_eq_true, Bool.or_eq_true] at h
  rcases List.mem_cons.1 hj with rfl | hj
  ·rcases h.1 with h1 | h1
   ·exact .inl h1
   ·right
    intro p o hp ho
    rw [hp, ho] at h1
    exact pairB_get h1
  ·exact pairsB_get h.2 j hj
theorem lineB_get {keep : Bool} {eff : Nat → Bool} {ops : Array Oper} {ms : List Nat} : ∀ {l seen : List Nat}, lineB keep eff ops ms seen l = true → ∀ A i B, l = A ++ i :: B → (∀ o, ops[i]? = some o → ∀ x ∈ o.after.toList, Region.binds .any x = true → x.on ∈ seen ++ A) ∧
   ∀ j ∈ seen ++ A, (ms.getD i 0).testBit j = true ∨ ∀ p o, ops[j]? = some p → ops[i]? = some o → PairC keep ops p o (eff j) (eff i)
 | [], seen, h, A, i, B, hl => by cases A <;> cases hl
 | q :: l, seen, h, A, i, B, hl => by
  simp only [lineB, Bool.and_eq_true] at h
  cases A with
  | nil =>
   obtain ⟨rfl, rfl⟩ := List.cons.inj hl
   rw [List.append_nil]
   refine ⟨fun o ho x hx hb => ?_, pairsB_get h.1.2⟩
   have h1 := h.1.1
   rw [ho] at h1
   have := List.all_eq_true.1 h1 x hx
   simp only [hb, Bool.not_true, Bool.false_or, List.any_eq_true] at this
   obtain ⟨y, hy, he⟩ := this
   rw [Nat.eq_of_beq_eq_true he]; exact hy
  | cons a A =>
   obtain ⟨rfl, hl2⟩ := List.cons.inj hl
   have := lineB_get h.2 A i B hl2
   rw [List.append_assoc, List.singleton_append] at this
   exact this
theorem nodup_of {n : Nat} {L : List Nat} (h1 : ∀ i < n, i ∈ L) (h2 : L.length = n) : L.Nodup := by
 induction n generalizing L with
 | zero =>
  have : L = [] := List.length_eq_zero_iff.1 h2
  rw [this]; exact List.nodup_nil
 | succ n ih =>
  obtain ⟨A, B, rfl⟩ := List.append_of_mem (h1 n (Nat.lt_succ_self n))
  have hlen : (A ++ B).length = n := by simp at h2 ⊢; omega
  have hin : ∀ i < n, i ∈ A ++ B := fun i hi => by
   have := h1 i (by omega)
   simp at this ⊢
   rcases this with h | h | h
   ·exact .inl h
   ·omega
   ·exact .inr h
  have hnd := ih hin hlen
  have hnot : n ∉ A ++ B := fun hm => by
   obtain ⟨C, E, hCE⟩ := List.append_of_mem hm
   rw [hCE] at hlen hin
   have key : ∀ (m : Nat) (M : List Nat), (∀ i < m, i ∈ M) → m ≤ M.length := by
    intro m
    induction m with
    | zero => intro M _; exact Nat.zero_le _
    | succ m ihm =>
     intro M hM
     obtain ⟨X, Y, rfl⟩ := List.append_of_mem (hM m (Nat.lt_succ_self m))
     have := ihm (X ++ Y) (fun i hi => by
      have := hM i (by omega)
      simp at this ⊢
      rcases this with h | h | h
      ·exact .inl h
      ·omega
      ·exact .inr h)
     simp at this ⊢; omega
   have := key n (C ++ E) (fun i hi => by
    have := hin i hi
    simp at this ⊢
    rcases this with h | h | h
    ·exact .inl h
    ·omega
    ·exact .inr h)
   simp at hlen this; omega
  rw [List.nodup_append] at hnd ⊢
  refine ⟨hnd.1, List.nodup_cons.2 ⟨fun h => hnot (by simp [h]), hnd.2.1⟩, fun a ha b hb => ?_⟩
  rcases List.mem_cons.1 hb with rfl | hb
  ·intro e; subst e; exact hnot (by simp [ha])
  ·exact hnd.2.2 a ha b hb
theorem pan_sound (hmix : P.follows .mixedOrders = true) (hT : TyOk P cx.T) (hnt : cx.nt = nt) (hC : CSound P cx.C) (hE : ESound P cx.E) {F : Fence} (hF : IsF F) {id : Nat} {ops : Array Oper} {e : Nat} {is ds : List Nat} {k : Ex → St → Option R} {r : R} {s : St}
  (hok : panOk cx.hint.keep (cx.hint.eff id) ops e is ds = true) (hs : runPan cx (cx.hint.eff id) ops e is ds s k = some r) {Q : Exit → Act → World → Prop} (hk : NextOk k r nt g0 h0 w0 (Q .normal) Q) {a : Act} {w : World} {h : Gh} (hsi : SI nt g0 h0 w0 s a w h) :
  (Code.region id ops true).wpIn F 0 P Q a w := by
 unfold panOk at hok
 simp only [Bool.and_eq_true, masksUpto_eq] at hok
 obtain ⟨⟨⟨⟨⟨⟨⟨k0, k1⟩, k2⟩, k3⟩, k4⟩, k5⟩, k6⟩, k7⟩ := hok
 have hanc : ∀ j i, ((masksOf ops.toList []).getD j 0).testBit i = true → Anc ops i j := masks_anc ops.toList [] rfl (by intro j i h; simp at h)
 have hlenL : (is ++ e :: ds).length = ops.size := Nat.eq_of_beq_eq_true k0
 have hall : ∀ i < ops.size, i ∈ is ++ e :: ds := fun i hi => by
  have := List.all_eq_true.1 k1 i (List.mem_range.2 hi)
  obtain ⟨y, hy, he⟩ := List.any_eq_true.1 this
  rw [Nat.eq_of_beq_eq_true he]; exact hy
 have hL : Line cx.hint.keep (cx.hint.eff id) ops (is ++ e :: ds) := by
  refine ⟨nodup_of hall hlenL, fun i => ⟨fun hi => ?_, hall i⟩, fun A i B hA o ho x hx hb => ?_, fun A i B hA j hj hna p o hp ho => ?_⟩
  ·have := List.all_eq_true.1 k2 i hi
   simpa using this
  ·have := (lineB_get k3 A i B hA).1 o ho x hx hb
   simpa using this
  ·rcases (lineB_get k3 A i B hA).2 j (by simpa using hj) with h | h
   ·exact absurd (hanc _ _ h) hna
   ·exact h p o hp ho
 have helt : e < ops.size := (hL.mem e).1 (by simp)
 obtain ⟨oe, hoe⟩ : ∃ oe, ops[e]? = some oe := ⟨_, Array.getElem?_eq_getElem helt⟩
 have hgo : (goCall oe.op).isSome = true := by
  unfold isCallAt at k6
  rw [hoe] at k6
  exact k6
 refine wpIn_region_any hmix ?_
 have hwd : ({ w with drawn := w.drawn + 1 } : World) = w.drew := rfl
 rw [hwd]
 have hrem : ∀ M : List Nat, (∀ i ∈ M, i < ops.size) → remO M (Array.replicate ops.size false) = M := fun M hM => by
  unfold remO
  rw [List.filter_eq_self]
  intro i hi
  rw [Array.getD_eq_getD_getElem?, Array.getElem?_replicate, if_pos (hM i hi)]
  rfl
 have hin : ∀ i ∈ is ++ e :: ds, i < ops.size := fun i hi => (hL.mem i).1 hi
 refine line_sound ⟨hT, hnt, hC, hE⟩ hF (k0 := k .normal) (fun s' a' w' h' hsi' hk' => hk.1 s' a' w' h' hsi' hk') hL rfl hoe hgo k5 (fun j hj p hp => ?_) (fun d hd => hanc _ _ (by simpa using List.all_eq_true.1 k7 d hd)) (KP := fun x g => k (.panic x) (bareSt g))
  (fun x s' a' w' h' v hsi' hv hk' => hk.2 x (bareSt s'.g) a' w' h' v hsi'.bare hv hk') ops.size _ (by simp) (fun j o ho hj => ?_) ?_ hsi.drew (fun hf => ?_) (fun _ => ?_)
 ·have := List.all_eq_true.1 k4 j hj
  rw [hp] at this
  simpa using this
 ·rw [Array.getD_eq_getD_getElem?, Array.getElem?_replicate] at hj
  split at hj <;> simp at hj
 ·rw [hrem _ hin, hlenL]; exact Nat.le_refl _
 ·rw [Array.getD_eq_getD_getElem?, Array.getElem?_replicate, if_pos helt] at hf
  cases hf
 ·rw [hrem _ (fun i hi => hin i (by simp [hi]))]
  unfold runPan at hs
  rw [runN_runL] at hs
  rw [← hs]
  congr 1
  funext s1
  rw [hoe]
  dsimp only
  congr 1
  funext ex s2
  cases ex with
  | normal => exact (runN_runL ds s2).symm
  | _ => rfl
end
end Go.Abs
