/- The abstract interpreter: a Go function's code, run on pure data. No program, no memory. -/
import Derived.WalkKit
namespace Go.Abs

/-- Pure data: what a Go value reads as. An element of a slice is the list of its cells. -/
inductive D where
  | bool (b : Bool)
  | int (k : IntKind) (n : Int)
  | str (s : ByteArray)
  | nilp
  | nilf
  | nili
  | nilm
  | nils
  | iface (t : TypeId) (x : D)
  | sl (sz : Nat) (es : List (List D))
  | full (sz : Nat) (es : List (List D))
  | fn (f : Fn) (caps : List D)
  | at (cs : List D)
  | agg (cs : List D)
  | emp (sz : Nat)

/-- The name of an owned row: the temporary or the place in a box that bears it. -/
inductive Id where
  | tmp (d t j : Nat)
  | box (d t j : Nat)
  | res (j : Nat)
  deriving DecidableEq

/-- Abstract values: data, an owned slice, a pointer into a box, a closure over pointers, several results, the yield of a loop. -/
inductive AV where
  | d (x : D)
  | own (i : Id) (sz : Nat) (es : List (List D))
  | ptr (d t off : Nat)
  | fn (f : Fn) (caps : List AV)
  | tup (xs : List AV)
  | yld (l : Nat)
  /-- A row i of which the elements from k on belong to nobody else; with o = some n, a pointer to its element n. -/
  | raw (o : Option Nat) (k : Nat) (i : Id) (sz : Nat) (es : List (List D))
  /-- A slice of n elements somewhere, of which nothing more is known; with o = some m, a pointer. -/
  | old (o : Option Nat) (sz n : Nat)

structure Box where
  cells : List AV
  frz : Bool
  /-- The type of what lies there, and of the elements of the row in cell 1, where that matters; else 0. -/
  ty : Nat × Nat

/-- Nothing is stored there, but by contracts. -/
def Box.lock (b : Box) : Bool := b.frz || !(Nat.beq b.ty.1 0)
theorem Box.unlock {b : Box} (h : b.lock = false) : b.frz = false ∧ b.ty.1 = 0 := by
  simpa [Box.lock] using h

/-- What is known of a type. -/
structure TI where
  size : Nat
  agg : Bool
  bytes : Nat
  zero : List D
  fields : List (Nat × Nat)
  elem : Nat
  kind : Nat
  /-- Cell by cell: the size of the elements, where the cell holds a slice; else 0. -/
  sls : List Nat := []
  /-- The type itself, where boxes of it are told from others; else 0. -/
  mark : Nat × Nat := (0, 0)
  /-- What kind of integers. -/
  int : Option IntKind := none

/-- Hints: no soundness hangs on them. By the id of the first region in a loop's body: the temporaries and boxes that are kept at its head; the closures that freeze what they capture. -/
structure Hint where
  loops : Nat → Option (List (Nat × Option Nat) × List (Nat × List (Nat × Nat)))
  freeze : List Nat
  eff : Nat → Nat → Bool
  /-- Whether the frame's boxes are hidden from the closures that it calls and that do not know them. -/
  hide : Bool := false
  /-- The temporaries whose append leaves a raw row. -/
  raw : List Nat := []
  /-- By the id of a region: the temporaries, and the places in the frame's boxes, whose raw rows turn into owned ones at its end. -/
  cook : Nat → List (Nat × Option Nat) := fun _ => []
  /-- By the id of a region that draws its order: the pairs that may not change places, and orders enough for all of theirs. -/
  ord : Nat → Option (List (Nat × Nat) × List (List Nat)) := fun _ => none
  /-- Whether the function's calls that turn boxes run with its own boxes put aside. -/
  keep : Bool := false
  /-- Whether the function has a deferred call. -/
  dfr : Bool := false
  /-- Whether the function has no loop over a function. -/
  flat : Bool := false

inductive Ex where
  | normal
  | exit (id : Nat)
  | goto (l : Nat)
  | ret
  | panic (x : D)

structure LoopRec where
  fid : FuncId
  dp : Nat
  nt : Nat
  hint : Hint
  tm : Nat → Option AV
  params : List Nat
  assign : Code
  body : Code
  pend : Option Ex

structure G where
  bx : Nat → Nat → Option Box
  dp : Nat
  lp : List LoopRec

/-- A frame: its temporaries; the names that an owned row may bear; what all frames share. -/
structure St where
  tm : Nat → Option AV
  fr : Nat → Bool
  g : G

inductive Out where
  | ret (rs : List AV)
  | pan (x : D)

/-! ### The same result -/
mutual
  def D.same : D → D → Bool
    | .bool a, .bool b => a == b
    | .int k a, .int l b => decide (k = l) && decide (a = b)
    | .str a, .str b => decide (a = b)
    | .nilp, .nilp => true
    | .nilf, .nilf => true
    | .nili, .nili => true
    | .nilm, .nilm => true
    | .nils, .nils => true
    | .iface t x, .iface u y => decide (t = u) && D.same x y
    | .sl z es, .sl y fs => decide (z = y) && D.samess es fs
    | .full z es, .full y fs => decide (z = y) && D.samess es fs
    | .fn (.func f) cs, .fn (.func g) ds => decide (f = g) && D.sames cs ds
    | .at cs, .at ds => D.sames cs ds
    | .agg cs, .agg ds => D.sames cs ds
    | .emp z, .emp y => decide (z = y)
    | _, _ => false
  def D.sames : List D → List D → Bool
    | [], [] => true
    | x :: xs, y :: ys => D.same x y && D.sames xs ys
    | _, _ => false
  def D.samess : List (List D) → List (List D) → Bool
    | [], [] => true
    | x :: xs, y :: ys => D.sames x y && D.samess xs ys
    | _, _ => false
end

mutual
  theorem D.same_eq : ∀ x y : D, D.same x y = true → x = y := by
    intro x y h
    match x, y, h with
    | .bool a, .bool b, h => simp only [D.same, beq_iff_eq] at h; rw [h]
    | .int k a, .int l b, h => simp only [D.same, Bool.and_eq_true, decide_eq_true_eq] at h; rw [h.1, h.2]
    | .str a, .str b, h => simp only [D.same, decide_eq_true_eq] at h; rw [h]
    | .nilp, .nilp, _ => rfl
    | .nilf, .nilf, _ => rfl
    | .nili, .nili, _ => rfl
    | .nilm, .nilm, _ => rfl
    | .nils, .nils, _ => rfl
    | .iface t x, .iface u y, h => simp only [D.same, Bool.and_eq_true, decide_eq_true_eq] at h; rw [h.1, D.same_eq x y h.2]
    | .sl z es, .sl y fs, h => simp only [D.same, Bool.and_eq_true, decide_eq_true_eq] at h; rw [h.1, D.samess_eq es fs h.2]
    | .full z es, .full y fs, h => simp only [D.same, Bool.and_eq_true, decide_eq_true_eq] at h; rw [h.1, D.samess_eq es fs h.2]
    | .fn (.func f) cs, .fn (.func g) ds, h => simp only [D.same, Bool.and_eq_true, decide_eq_true_eq] at h; rw [h.1, D.sames_eq cs ds h.2]
    | .at cs, .at ds, h => simp only [D.same] at h; rw [D.sames_eq cs ds h]
    | .agg cs, .agg ds, h => simp only [D.same] at h; rw [D.sames_eq cs ds h]
    | .emp z, .emp y, h => simp only [D.same, decide_eq_true_eq] at h; rw [h]
  theorem D.sames_eq : ∀ x y : List D, D.sames x y = true → x = y
    | [], [], _ => rfl
    | x :: xs, y :: ys, h => by simp only [D.sames, Bool.and_eq_true] at h; rw [D.same_eq x y h.1, D.sames_eq xs ys h.2]
    | [], _ :: _, h => by simp [D.sames] at h
    | _ :: _, [], h => by simp [D.sames] at h
  theorem D.samess_eq : ∀ x y : List (List D), D.samess x y = true → x = y
    | [], [], _ => rfl
    | x :: xs, y :: ys, h => by simp only [D.samess, Bool.and_eq_true] at h; rw [D.sames_eq x y h.1, D.samess_eq xs ys h.2]
    | [], _ :: _, h => by simp [D.samess] at h
    | _ :: _, [], h => by simp [D.samess] at h
end

def AV.same : AV → AV → Bool
  | .d x, .d y => D.same x y
  | .own i z es, .own j y fs => decide (i = j) && decide (z = y) && D.samess es fs
  | _, _ => false
def AV.sames : List AV → List AV → Bool
  | [], [] => true
  | x :: xs, y :: ys => AV.same x y && AV.sames xs ys
  | _, _ => false
def Out.same : Out → Out → Bool
  | .ret rs, .ret qs => AV.sames rs qs
  | .pan x, .pan y => D.same x y
  | _, _ => false
theorem AV.same_eq : ∀ x y : AV, AV.same x y = true → x = y := by
  intro x y h
  match x, y, h with
  | .d x, .d y, h => simp only [AV.same] at h; rw [D.same_eq x y h]
  | .own i z es, .own j y fs, h => simp only [AV.same, Bool.and_eq_true, decide_eq_true_eq] at h; rw [h.1.1, h.1.2, D.samess_eq es fs h.2]
theorem AV.sames_eq : ∀ x y : List AV, AV.sames x y = true → x = y
  | [], [], _ => rfl
  | x :: xs, y :: ys, h => by simp only [AV.sames, Bool.and_eq_true] at h; rw [AV.same_eq x y h.1, AV.sames_eq xs ys h.2]
  | [], _ :: _, h => by simp [AV.sames] at h
  | _ :: _, [], h => by simp [AV.sames] at h
theorem Out.same_eq : ∀ x y : Out, Out.same x y = true → x = y := by
  intro x y h
  match x, y, h with
  | .ret rs, .ret qs, h => simp only [Out.same] at h; rw [AV.sames_eq rs qs h]
  | .pan x, .pan y, h => simp only [Out.same] at h; rw [D.same_eq x y h]

/-- Results that can be told apart. -/
class Same (R : Type) where
  same : R → R → Bool
  eq : ∀ a b, same a b = true → a = b
instance : Same Out := ⟨Out.same, Out.same_eq⟩

/-- Two runs that come to the same. -/
def both {R : Type} [Same R] (x y : Option R) : Option R := match x, y with
  | some a, some b => if Same.same a b then some a else none
  | _, _ => none

mutual
  def AV.data : AV → Option D
    | .d x => some x
    | .own _ sz es => some (.sl sz es)
    | .fn f caps => match AV.datas caps with
      | some ds => some (.fn f ds)
      | none => none
    | _ => none
  def AV.datas : List AV → Option (List D)
    | [] => some []
    | a :: as => match AV.data a with
      | some x => match AV.datas as with
        | some xs => some (x :: xs)
        | none => none
      | none => none
end

/-- A slice in a struct is read as its elements: whether it is nil, or full, is forgotten. -/
def nrm1 : Nat → D → D
  | k + 1, .nils => .sl (k + 1) []
  | _ + 1, .full z es => .sl z es
  | _ + 1, .emp z => .sl z []
  | _, x => x
def nrmC : List Nat → List D → List D
  | k :: ks, c :: cs => nrm1 k c :: nrmC ks cs
  | _, cs => cs
def nrmD (T : Nat → Option TI) (t : Nat) : D → D
  | .agg cs => match T t with
    | some ti => .agg (nrmC ti.sls cs)
    | none => .agg cs
  | x => x
def nrmA (T : Nat → Option TI) (t : Nat) : AV → AV
  | .d x => .d (nrmD T t x)
  | a => a
def nrmDs (T : Nat → Option TI) : List Nat → List D → List D
  | t :: ts, x :: xs => nrmD T t x :: nrmDs T ts xs
  | _, xs => xs

def D.cells : D → List D
  | .agg cs => cs
  | x => [x]

def AV.elems : AV → Option (List (List D))
  | .d .nils => some []
  | .d (.emp _) => some []
  | .d (.sl _ es) => some es
  | .d (.full _ es) => some es
  | .own _ _ es => some es
  | _ => none

/-- The elements, if they have so many cells each. -/
def AV.row (sz : Nat) : AV → Option (List (List D))
  | .d .nils => some []
  | .d (.emp z) => if Nat.beq z sz then some [] else none
  | .d (.sl z es) => if Nat.beq z sz then some es else none
  | .d (.full z es) => if Nat.beq z sz then some es else none
  | .own _ z es => if Nat.beq z sz then some es else none
  | _ => none

/-- A string's bytes, as elements. -/
def strRow (s : ByteArray) : List (List D) := s.data.toList.map fun c => [.int .u8 c.toNat]

/-- What may be appended: a row, or to bytes a string. -/
def AV.rowS (t2 te : TI) (a : AV) : Option (List (List D)) := match t2.kind with
  | 3 => match a, te.int with
    | .d (.str s), some .u8 => if Nat.beq te.size 1 then some (strRow s) else none
    | _, _ => none
  | _ => AV.row te.size a

/-- The elements that may be pointed to. -/
def AV.refs (sz : Nat) : AV → Option (List (List D))
  | .raw none _ _ z es => if Nat.beq z sz then some es else none
  | .old none z n => if Nat.beq z sz then some (List.replicate n []) else none
  | a => AV.row sz a

/-- The pointer to an element. -/
def AV.elem (n : Nat) (e : List D) : AV → AV
  | .raw none k i z es => .raw (some n) k i z es
  | .old none z m => .old (some n) z m
  | _ => .d (.at e)

def cvD : Value → Option D
  | .bool b => some (.bool b)
  | .int k n => some (.int k n)
  | .string s => some (.str s)
  | .slice none 0 0 => some .nils
  | .pointer none => some .nilp
  | .nilFunc => some .nilf
  | .nilIface => some .nili
  | .map none => some .nilm
  | _ => none
def cvDs : List Value → Option (List D)
  | [] => some []
  | v :: vs => match cvD v with
    | some x => match cvDs vs with
      | some xs => some (x :: xs)
      | none => none
    | none => none
def cv : Value → Option AV
  | .agg cs => match cvDs cs.toList with
    | some ds => some (.d (.agg ds))
    | none => none
  | v => match cvD v with
    | some x => some (.d x)
    | none => none
theorem cv_d {v : Value} {a : AV} (h : cv v = some a) : ∃ x, a = .d x := by
  unfold cv at h
  split at h
  · split at h <;> simp at h
    exact ⟨_, h.symm⟩
  · split at h <;> simp at h
    exact ⟨_, h.symm⟩

/-- A scalar as the model's value. -/
def D.val : D → Option Value
  | .bool b => some (.bool b)
  | .int k n => some (.int k n)
  | .str s => some (.string s)
  | _ => none

def vD : Value → Option D
  | .bool b => some (.bool b)
  | .int k n => some (.int k n)
  | .string s => some (.str s)
  | _ => none

/-- What a computation of the model that asks nothing of the world comes to. -/
def semV : Sem Value → Option AV
  | .pure v => match vD v with
    | some x => some (.d x)
    | none => none
  | _ => none

def ev (tm : Nat → Option AV) : Operand → Option AV
  | .tmp t => tm t
  | .const v => cv v
  | .func f => some (.d (.fn (.func f) []))
  | .global _ => none

def evs (tm : Nat → Option AV) : List Operand → Option (List AV)
  | [] => some []
  | x :: xs => match ev tm x with
    | some a => match evs tm xs with
      | some as => some (a :: as)
      | none => none
    | none => none

def upd (tm : Nat → Option AV) (d : Nat) (v : Option AV) : Nat → Option AV := fun t => if Nat.beq t d then v else tm t

/-! ### Ownership -/
mutual
  def dem (i : Id) : AV → AV
    | .own j sz es => if i = j then .d (.sl sz es) else .own j sz es
    | .raw o k j sz es => if i = j then .old o sz es.length else .raw o k j sz es
    | .tup xs => .tup (dems i xs)
    | a => a
  def dems (i : Id) : List AV → List AV
    | [] => []
    | a :: as => dem i a :: dems i as
end

/- An element of a raw row, set. -/
mutual
  def setRaw (i : Id) (n sz : Nat) (c : List D) : AV → AV
    | .raw o k j z es => if i = j then (match Nat.beq z sz with
      | true => .raw o k j z (es.set n c)
      | false => .old o z es.length) else .raw o k j z es
    | .tup xs => .tup (setRaws i n sz c xs)
    | a => a
  def setRaws (i : Id) (n sz : Nat) (c : List D) : List AV → List AV
    | [] => []
    | a :: as => setRaw i n sz c a :: setRaws i n sz c as
end

def demBx (i : Id) (bx : Nat → Nat → Option Box) : Nat → Nat → Option Box := fun d t => match bx d t with
  | some b => some { b with cells := dems i b.cells }
  | none => none

def demTm (i : Id) (tm : Nat → Option AV) : Nat → Option AV := fun t => match tm t with
  | some a => some (dem i a)
  | none => none

def demSt (i : Id) (s : St) : St := { tm := demTm i s.tm, fr := s.fr, g := { s.g with bx := demBx i s.g.bx } }

def setTm (i : Id) (n sz : Nat) (c : List D) (tm : Nat → Option AV) : Nat → Option AV := fun t => match tm t with
  | some a => some (setRaw i n sz c a)
  | none => none
def setBx (i : Id) (n sz : Nat) (c : List D) (bx : Nat → Nat → Option Box) : Nat → Nat → Option Box := fun d t => match bx d t with
  | some b => some { b with cells := setRaws i n sz c b.cells }
  | none => none
def setSt (i : Id) (n sz : Nat) (c : List D) (s : St) : St := { tm := setTm i n sz c s.tm, fr := s.fr, g := { s.g with bx := setBx i n sz c s.g.bx } }

/- A row goes over to another name, in all that bear it. -/
mutual
  def renA (i nm : Id) : AV → AV
    | .own j sz es => .own (if i = j then nm else j) sz es
    | .raw o k j sz es => .raw o k (if i = j then nm else j) sz es
    | .tup xs => .tup (renAs i nm xs)
    | a => a
  def renAs (i nm : Id) : List AV → List AV
    | [] => []
    | a :: as => renA i nm a :: renAs i nm as
end
def renTm (i nm : Id) (tm : Nat → Option AV) : Nat → Option AV := fun t => match tm t with
  | some a => some (renA i nm a)
  | none => none
def renBx (i nm : Id) (bx : Nat → Nat → Option Box) : Nat → Nat → Option Box := fun d t => match bx d t with
  | some b => some { b with cells := renAs i nm b.cells }
  | none => none
def renSt (i nm : Id) (s : St) : St := { tm := renTm i nm s.tm, fr := s.fr, g := { s.g with bx := renBx i nm s.g.bx } }

/- The pointers in a value lead to boxes of this depth or less. -/
mutual
  def AV.upto (n : Nat) : AV → Bool
    | .d _ => true
    | .own _ _ _ => true
    | .ptr d1 _ _ => Nat.ble d1 n
    | .fn _ caps => AV.uptos n caps
    | .tup xs => AV.uptos n xs
    | .yld _ => false
    | .raw _ _ _ _ _ => true
    | .old _ _ _ => true
  def AV.uptos (n : Nat) : List AV → Bool
    | [] => true
    | a :: as => AV.upto n a && AV.uptos n as
end

/- The pointers in a value lead to no box of this depth but those listed. -/
mutual
  def AV.within (dp : Nat) (bs : List Nat) : AV → Bool
    | .d _ => true
    | .own _ _ _ => true
    | .ptr d1 t _ => !(Nat.beq d1 dp) || bs.any (Nat.beq t ·)
    | .fn _ caps => AV.withins dp bs caps
    | .tup xs => AV.withins dp bs xs
    | .yld _ => true
    | .raw _ _ _ _ _ => true
    | .old _ _ _ => true
  def AV.withins (dp : Nat) (bs : List Nat) : List AV → Bool
    | [] => true
    | a :: as => AV.within dp bs a && AV.withins dp bs as
end

/-! ### Operations that only compute -/
section
variable (T : Nat → Option TI)

def intOf : AV → Option Int
  | .d (.int _ n) => some n
  | _ => none

def opB (f : Value → Value → Sem Value) (a b : AV) : Option AV :=
  match a, b with
  | .d x, .d y => match x.val, y.val with
    | some u, some v => semV (f u v)
    | _, _ => none
  | _, _ => none

def fillCells (cs : List D) (off : Nat) (vs : List D) : List D := cs.take off ++ vs ++ cs.drop (off + vs.length)

def buildCells (fields : List (Nat × Nat)) (ev : Operand → Option AV) : List (Nat × Operand) → List D → Option (List D)
  | [], cs => some cs
  | (i, x) :: rest, cs => match ev x with
    | some a => match a.data with
      | some v => match fields[i]? with
        | some (off, size) => if Nat.beq v.cells.length size && Nat.ble (off + size) cs.length then buildCells fields ev rest (fillCells cs off v.cells) else none
        | none => none
      | none => none
    | none => none

def sliceD (sz : Nat) (a : AV) (lo hi mx : Option Int) : Option AV :=
  if mx.isSome && hi.isNone then none else
  match a with
  | .d .nils => if lo.getD 0 = 0 ∧ hi.getD 0 = 0 ∧ mx.getD 0 = 0 then some (.d .nils) else none
  | a => match AV.row sz a with
    | some es =>
      let l := lo.getD 0
      let h := hi.getD es.length
      match mx with
      | none => if 0 ≤ l ∧ l ≤ h ∧ h ≤ es.length then some (.d (.sl sz ((es.take h.toNat).drop l.toNat))) else none
      | some m => if 0 ≤ l ∧ l ≤ h ∧ h = m ∧ m ≤ es.length then some (.d (.full sz ((es.take h.toNat).drop l.toNat))) else none
    | none => none

def optI (ev : Operand → Option AV) : Option Operand → Option (Option Int)
  | none => some none
  | some x => match ev x with
    | some a => match intOf a with
      | some n => some (some n)
      | none => none
    | none => none

def opLen (kind : Nat) (a : AV) : Option AV := match kind with
  | 2 => match a.elems with
    | some es => some (.d (.int .i64 es.length))
    | none => none
  | 3 => match a with
    | .d (.str s) => some (.d (.int .i64 s.size))
    | _ => none
  | _ => none

def isLen : Callee → Bool
  | .builtin b => (match b with
    | .len => true
    | .max => true
    | .min => true
    | _ => false)
  | _ => false

/-- Which of max and min, if one of them. -/
def extOp : Callee → Option Bool
  | .builtin b => (match b with
    | .max => some true
    | .min => some false
    | _ => none)
  | _ => none
def extI (mx : Bool) (x y : Int) : Int := match mx with
  | true => if y > x then y else x
  | false => if y < x then y else x
def extA (mx : Bool) (a b : AV) : Option AV := match a, b with
  | .d (.int k x), .d (.int _ y) => some (.d (.int k (extI mx x y)))
  | _, _ => none

def lenA (ev : Operand → Option AV) (c : Call) : Option AV :=
  if isLen c.callee then match extOp c.callee with
    | none => (match c.args.toList, c.argTypes.toList with
      | [x], t :: _ => match T t with
        | some ti => match ev x with
          | some a => opLen ti.kind a
          | none => none
        | none => none
      | _, _ => none)
    | some mx => (match c.args.toList with
      | [x, y] => match ev x with
        | some a => match ev y with
          | some b => extA mx a b
          | none => none
        | none => none
      | _ => none)
  else none

/-- Whether a value is nil, where that is known. -/
def nilQ (k : Nat) (a : AV) : Option Bool := match k with
  | 2 => match a with
    | .d .nils => some true
    | .d (.emp _) => some false
    | a => match a.elems with
      | some (_ :: _) => some false
      | _ => none
  | 7 => match a with
    | .d .nilp => some true
    | .d (.at _) => some false
    | .ptr _ _ _ => some false
    | _ => none
  | 9 => match a with
    | .d .nilf => some true
    | .d (.fn _ _) => some false
    | .fn _ _ => some false
    | .yld _ => some false
    | _ => none
  | 10 => match a with
    | .d .nilm => some true
    | _ => none
  | 8 => match a with
    | .d .nili => some true
    | .d (.iface _ _) => some false
    | _ => none
  | _ => none

def eqV (t : Nat) (a b : AV) : Option Bool := match T t with
  | none => none
  | some ti => match ti.kind with
    | 5 => match a, b with
      | .d (.bool x), .d (.bool y) => some (x == y)
      | _, _ => none
    | k => match nilQ k a, nilQ k b with
      | some true, some r => some r
      | some r, some true => some r
      | _, _ => none

/-- Equality of truth values, and with nil. -/
def eqA (op : BinOp) (t : Nat) (a b : AV) : Option AV := match eqV T t a b with
  | some r => match op with
    | .eql => some (.d (.bool r))
    | .neq => some (.d (.bool (!r)))
    | _ => none
  | none => none

/-- What a failed assertion comes to. -/
def zeroT (ti : TI) : Option AV := match ti.agg with
  | true => some (.tup [.d (.agg ti.zero), .d (.bool false)])
  | false => match ti.zero with
    | [z] => some (.tup [.d z, .d (.bool false)])
    | _ => none

/-- The operations that look at nothing but their operands. -/
def opP (ev : Operand → Option AV) : Op → Option AV
  | .move x => ev x
  | .assign x => ev x
  | .pick c a b => match ev c with
    | some (.d (.bool true)) => ev a
    | some (.d (.bool false)) => ev b
    | _ => none
  | .build t parts => match T t with
    | some ti => match ti.kind with
      | 1 => match buildCells ti.fields ev parts.toList ti.zero with
        | some cs => some (.d (.agg cs))
        | none => none
      | _ => none
    | none => none
  | .fieldAddr t x f => match T t with
    | some ti => match ti.kind, ti.fields[f]?, ev x with
      | 1, some (off, _), some (.ptr d u o) => some (.ptr d u (o + off))
      | 1, some (off, _), some (.d (.at cs)) => if Nat.ble off cs.length then some (.d (.at (cs.drop off))) else none
      | _, _, _ => none
    | none => none
  | .indexAddr t x i => match T t with
    | some ti => match ti.kind with
      | 2 => match T ti.elem with
        | some te => match ev x with
          | some a => match AV.refs te.size a with
            | some es => match ev i with
              | some b => match intOf b with
                | some n => if 0 ≤ n then match es[n.toNat]? with
                    | some e => some (AV.elem n.toNat e a)
                    | none => none
                  else none
                | none => none
              | none => none
            | none => none
          | none => none
        | none => none
      | _ => none
    | none => none
  | .index t x i => match T t with
    | some ti => match ti.kind, ev x with
      | 3, some (.d (.str s)) => match ev i with
        | some b => match intOf b with
          | some n => match (if 0 ≤ n then s[n.toNat]? else none) with
            | some c => some (.d (.int .u8 c.toNat))
            | none => none
          | none => none
        | none => none
      | _, _ => none
    | none => none
  | .slice t x lo hi mx => match T t with
    | some ti => match ti.kind, ev x, optI ev lo, optI ev hi, optI ev mx with
      | 2, some a, some l, some h, some m => match T ti.elem with
        | some te => sliceD te.size a l h m
        | none => none
      | 3, some (.d (.str s)), some l, some h, some none =>
        if 0 ≤ l.getD 0 ∧ l.getD 0 ≤ h.getD s.size ∧ h.getD s.size ≤ s.size then some (.d (.str (s.extract (l.getD 0).toNat (h.getD s.size).toNat))) else none
      | _, _, _, _, _ => none
    | none => none
  | .extract x i => match ev x with
    | some (.tup xs) => xs[i]?
    | _ => none
  | .nilCheck x => match ev x with
    | some (.ptr d u o) => some (.ptr d u o)
    | some (.d (.at cs)) => some (.d (.at cs))
    | _ => none
  | .binOp op t x y _ => match ev x, ev y with
    | some a, some b => match opB (binOp op t) a b with
      | some v => some v
      | none => eqA T op t a b
    | _, _ => none
  | .unOp op _ x => match ev x with
    | some (.d a) => match a.val with
      | some u => semV (Op.unary op u)
      | none => none
    | _ => none
  | .makeInterface t x => match T t with
    | some ti => match ev x with
      | some (.d (.agg cs)) => if Nat.beq ti.kind 1 then some (.d (.iface t (.agg cs))) else none
      | some (.d (.int k n)) => if Nat.beq ti.kind 4 then some (.d (.iface t (.int k n))) else none
      | _ => none
    | none => none
  | .typeAssert x _ t ok => match T t with
    | some ti => match ok, ev x with
      | true, some (.d (.iface u v)) => if Nat.beq ti.kind 1 || Nat.beq ti.kind 4 then (if Nat.beq u t then some (.tup [.d v, .d (.bool true)]) else zeroT ti) else none
      | true, some (.d .nili) => if Nat.beq ti.kind 1 || Nat.beq ti.kind 4 then zeroT ti else none
      | _, _ => none
    | none => none
  | .convert s t x => match T s, T t with
    | some si, some ti => match si.int, ti.int, ev x with
      | some _, some k, some (.d (.int _ n)) => some (.d (.int k (k.wrap n)))
      | _, _, _ => none
    | _, _ => none
  | .call c => lenA T ev c
  | _ => none
end

/-! ### Boxes -/
section
variable (T : Nat → Option TI)

def loadA (bx : Nat → Nat → Option Box) (t : Nat) (p : AV) : Option AV :=
  match T t with
  | none => none
  | some ti => match p with
    | .ptr d u off => match bx d u with
      | none => none
      | some b => match ti.agg with
        | true => match AV.datas ((b.cells.drop off).take ti.size) with
          | some cs => if Nat.beq cs.length ti.size then some (.d (.agg cs)) else none
          | none => none
        | false => b.cells[off]?
    | .d (.at cs) => match ti.agg with
      | true => if Nat.ble ti.size cs.length then some (.d (.agg (cs.take ti.size))) else none
      | false => match cs[0]? with
        | some x => some (.d x)
        | none => none
    | _ => none

/-- The cells that a value has in a box; an owned slice takes the box's name. -/
def boxCells (ti : TI) (nm : Id) (a : AV) : Option (List AV) :=
  match ti.agg with
  | true => match a.data with
    | some (.agg cs) => if Nat.beq cs.length ti.size then some (cs.map .d) else none
    | _ => none
  | false => match a with
    | .own _ sz es => some [.own nm sz es]
    | .raw o k _ sz es => (match o with
      | none => some [.raw none k nm sz es]
      | some _ => none)
    | .old _ _ _ => none
    | .tup _ => none
    | .d (.agg _) => none
    | a => some [a]

/-- The name given over to what a value bears. -/
def letIn (nm : Id) (a : AV) (s : St) : St := match a with
  | .own i _ _ => demSt nm (demSt i s)
  | .raw _ _ i _ _ => renSt i nm (demSt nm s)
  | _ => demSt nm s

def allocA (dst : Nat) (t : Nat) (s : St) : Option St :=
  match T t, s.g.bx s.g.dp dst with
  | some ti, none => some { tm := upd s.tm dst (some (.ptr s.g.dp dst 0)), fr := s.fr, g := { s.g with bx := fun d u => if Nat.beq d s.g.dp && Nat.beq u dst then some { cells := ti.zero.map .d, frz := false, ty := ti.mark } else s.g.bx d u } }
  | _, _ => none

def boxA (dst : Nat) (t : Nat) (x : Operand) (s : St) : Option St :=
  match T t, s.g.bx s.g.dp dst, ev s.tm x with
  | some ti, none, some a =>
    match boxCells ti (.box s.g.dp dst 0) a with
    | some cs =>
      let s1 := letIn (.box s.g.dp dst 0) a s
      some { tm := upd s1.tm dst (some (.ptr s.g.dp dst 0)), fr := s1.fr, g := { s1.g with bx := fun d u => if Nat.beq d s.g.dp && Nat.beq u dst then some { cells := cs, frz := false, ty := (0, 0) } else s1.g.bx d u } }
    | none => none
  | _, _, _ => none

def setCells (cs : List AV) (off : Nat) (vs : List AV) : List AV := cs.take off ++ vs ++ cs.drop (off + vs.length)

/-- The cells that a value has as an element of a row. -/
def rowCells (ti : TI) (a : AV) : Option (List D) :=
  match ti.agg with
  | true => match a.data with
    | some (.agg cs) => if Nat.beq cs.length ti.size then some cs else none
    | _ => none
  | false => match a.data with
    | some (.agg _) => none
    | some x => some [x]
    | none => none

/-- An element of a raw row is turned. -/
def storeR (ti : TI) (n k : Nat) (i : Id) (sz : Nat) (es : List (List D)) (a : AV) (s : St) : Option St :=
  match rowCells ti a with
  | some cs => if Nat.beq sz ti.size && Nat.ble 1 sz && (Nat.ble k n && Nat.blt n es.length) then some (setSt i n sz cs s) else none
  | none => none

/-- A value put into a box. -/
def storeB (ti : TI) (d u off : Nat) (a : AV) (s : St) : Option St :=
  match boxCells ti (.box d u off) a with
  | some cs =>
    let s1 := letIn (.box d u off) a s
    match s1.g.bx d u with
    | some b =>
      if !b.lock && (Nat.beq d s.g.dp || AV.uptos d cs) && Nat.ble (off + cs.length) b.cells.length then
        some { s1 with g := { s1.g with bx := fun d' u' => if Nat.beq d' d && Nat.beq u' u then some { b with cells := setCells b.cells off cs } else s1.g.bx d' u' } }
      else none
    | none => none
  | none => none

def storeA (t : Nat) (p x : Operand) (s : St) : Option St :=
  match T t, ev s.tm p, ev s.tm x with
  | some ti, some (.ptr d u off), some a => storeB ti d u off a s
  | some ti, some (.raw (some n) k i sz es), some a => storeR ti n k i sz es a s
  | _, _, _ => none

/-! ### Rows that the function makes -/
def most : Nat := 1099511627776

def setFr (fr : Nat → Bool) (d : Nat) : Nat → Bool := fun t => Nat.beq t d || fr t

/-- A new row, under the name of the temporary that takes it: an owned one, or a raw one from element k on. -/
def rowAV (k : Option Nat) (i : Id) (sz : Nat) (es : List (List D)) : AV := match k with
  | none => .own i sz es
  | some k => .raw none k i sz es

def putOwn (k : Option Nat) (dst : Nat) (sz : Nat) (es : List (List D)) (s : St) : Option St :=
  if s.fr dst then none else some { tm := upd s.tm dst (some (rowAV k (.tmp s.g.dp dst 0) sz es)), fr := setFr s.fr dst, g := s.g }

def rawK (rw : Bool) (n : Nat) : Option Nat := match rw with
  | true => some n
  | false => none

/-- A raw row comes of nothing, or of something appended. -/
def rawC (rw : Bool) (n m : Nat) : Bool := match rw with
  | true => Nat.beq n 0 || Nat.blt 0 m
  | false => true

def appendA (rw : Bool) (dst : Nat) (t t2 : TI) (x y : Operand) (s : St) : Option St :=
  match t.kind, T t.elem with
    | 2, some te => match ev s.tm x, ev s.tm y with
      | some a, some b => match AV.rowS t2 te b with
        | some ys => match a with
          | .own i sz es => if Nat.beq sz te.size && Nat.ble ((es.length + ys.length) * (te.bytes + 1)) most && Nat.ble 1 te.size && rawC rw es.length ys.length then putOwn (rawK rw es.length) dst te.size (es ++ ys) (demSt i s) else none
          | .d .nils => if Nat.ble (ys.length * (te.bytes + 1)) most && Nat.ble 1 te.size then putOwn (rawK rw 0) dst te.size ys s else none
          | .d (.full sz es) => if Nat.beq sz te.size && Nat.ble ((es.length + ys.length) * (te.bytes + 1)) most && Nat.ble 1 te.size && rawC rw es.length ys.length then putOwn (rawK rw es.length) dst te.size (es ++ ys) s else none
          | _ => none
        | none => none
      | _, _ => none
    | _, _ => none

def partCells (sz : Nat) (ev : Operand → Option AV) : List (Nat × Operand) → List (List D) → Option (List (List D))
  | [], es => some es
  | (i, x) :: rest, es => match ev x with
    | some a => match a.data with
      | some v => if Nat.beq v.cells.length sz && Nat.blt i es.length then partCells sz ev rest (es.set i v.cells) else none
      | none => none
    | none => none

def buildSliceA (dst : Nat) (t n : Nat) (parts : List (Nat × Operand)) (s : St) : Option St :=
  match T t with
  | none => none
  | some ti => match ti.kind, T ti.elem with
    | 2, some te => match partCells te.size (ev s.tm) parts (List.replicate n te.zero) with
      | some es => if Nat.ble (n * te.size) 16777216 && Nat.ble 1 te.size then putOwn none dst te.size (es.map (nrmC te.sls)) s else none
      | none => none
    | _, _ => none
end

/-! ### Closures -/
/-- A pointer to a frozen box of data, as a pointer to what never turns. -/
def thaw (bx : Nat → Nat → Option Box) : AV → AV
  | .ptr d t off => match bx d t with
    | some b => match b.frz, AV.datas b.cells with
      | true, some cs => if Nat.ble off cs.length then .d (.at (cs.drop off)) else .ptr d t off
      | _, _ => .ptr d t off
    | none => .ptr d t off
  | a => a

def freezeBx (bx : Nat → Nat → Option Box) : List AV → (Nat → Nat → Option Box)
  | [] => bx
  | .ptr d t _ :: rest => freezeBx (fun d' t' => if Nat.beq d' d && Nat.beq t' t then (match bx d t with
      | some b => some { b with frz := true }
      | none => none) else bx d' t') rest
  | _ :: rest => freezeBx bx rest

def ownData : AV → AV
  | .own _ sz es => .d (.sl sz es)
  | .raw o _ _ sz es => .old o sz es.length
  | a => a

def noTup : AV → Bool
  | .tup _ => false
  | _ => true

def mkFn (f : Fn) (caps : List AV) : AV := match AV.datas caps with
  | some ds => .d (.fn f ds)
  | none => .fn f caps

def makeFuncA (h : Hint) (dst : Nat) (f : Fn) (caps : List Operand) (s : St) : Option St :=
  match evs s.tm caps with
  | some as =>
    if as.all noTup then
      let bx := if h.freeze.any (Nat.beq dst ·) then freezeBx s.g.bx as else s.g.bx
      some { tm := upd s.tm dst (some (mkFn f (as.map fun a => thaw bx (ownData a)))), fr := s.fr, g := { s.g with bx := bx } }
    else none
  | none => none

/-! ### A step that is no call of Go code -/
def putV (nt : Nat) (dst : Option Nat) (v : AV) (s : St) : Option St := match dst with
  | some d => if Nat.blt d nt then some { s with tm := upd s.tm d (some v) } else none
  | none => some s

def isAppend : Callee → Bool
  | .builtin b => (match b with
    | .append => true
    | _ => false)
  | _ => false

def callB (T : Nat → Option TI) (h : Hint) (d : Nat) (c : Call) (s : St) : Option St :=
  if isAppend c.callee then match c.args.toList, c.argTypes.toList with
    | [x, y], [t, t'] => match T t, T t' with
      | some ti, some t2 => if Nat.beq t t' || Nat.beq t2.kind 3 then appendA T (h.raw.any (Nat.beq d ·)) d ti t2 x y s else none
      | _, _ => none
    | _, _ => none
  else match lenA T (ev s.tm) c with
    | some v => some { s with tm := upd s.tm d (some v) }
    | none => none

def stepOp (T : Nat → Option TI) (h : Hint) (nt : Nat) (o : Oper) (s : St) : Option St :=
  match o.dst with
  | none => match o.op with
    | .store t p x => storeA T t p x s
    | _ => none
  | some d => if Nat.blt d nt then match o.op with
    | .alloc t => allocA T d t s
    | .box t x => boxA T d t x s
    | .load t p => match ev s.tm p with
      | some a => match loadA T s.g.bx t a with
        | some v => some { s with tm := upd s.tm d (some v) }
        | none => none
      | none => none
    | .buildSlice t n parts => buildSliceA T d t n parts.toList s
    | .call c => callB T h d c s
    | .makeFunc f first caps => if first.isEmpty then makeFuncA h d f caps.toList s else none
    | op => match opP T (ev s.tm) op with
      | some v => some { s with tm := upd s.tm d (some v) }
      | none => none
    else none

/-! ### Calls -/
def renAV (dp dst j : Nat) : AV → AV
  | .own _ sz es => .own (.tmp dp dst j) sz es
  | .raw o _ _ sz es => .old o sz es.length
  | a => a

def renAVs (dp dst : Nat) : Nat → List AV → List AV
  | _, [] => []
  | j, a :: as => renAV dp dst j a :: renAVs dp dst (j + 1) as

/-- What a call leaves behind: its results, the owned ones under the names of the temporary that takes them. -/
def putRes (nt : Nat) (dst : Option Nat) (rs : List AV) (s : St) : Option St :=
  match dst with
  | none => some s
  | some d =>
    if s.fr d then none else
    if Nat.blt d nt then
      some { tm := upd s.tm d (some (match renAVs s.g.dp d 0 rs with
        | [a] => a
        | as => .tup as)), fr := setFr s.fr d, g := s.g }
    else none

/- Temporaries that bear a row of a box let it go: the callee may append to it. -/
mutual
  def demBoxes : AV → AV
    | .own (.box _ _ _) sz es => .d (.sl sz es)
    | .raw o _ (.box _ _ _) sz es => .old o sz es.length
    | .tup xs => .tup (demBoxess xs)
    | a => a
  def demBoxess : List AV → List AV
    | [] => []
    | a :: as => demBoxes a :: demBoxess as
end

def guardV (ops : Array Oper) (tm : Nat → Option AV) (g : Nat) : Option (Option Bool) :=
  match ops[g]? with
  | some o => match o.dst with
    | some t => match tm t with
      | some (.d (.bool b)) => some (some b)
      | some (.tup []) => some none
      | _ => none
    | none => none
  | none => none


/- All ownership let go. -/
mutual
  def demAll : AV → AV
    | .own _ sz es => .d (.sl sz es)
    | .raw o _ _ sz es => .old o sz es.length
    | .tup xs => .tup (demAlls xs)
    | a => a
  def demAlls : List AV → List AV
    | [] => []
    | a :: as => demAll a :: demAlls as
end

def mapTm (f : AV → AV) (tm : Nat → Option AV) : Nat → Option AV := fun t => match tm t with
  | some a => some (f a)
  | none => none

/-! ### Regions that draw their order -/
/-- 0: looks at its operands alone, or loads, or lays a new box; 1: calls, appends, builds; 2: stores. -/
inductive Cl where
  | pure | load | alloc | build | app | call | store
  deriving DecidableEq

def clsOp : Op → Cl
  | .load _ _ => .load
  | .alloc _ => .alloc
  | .buildSlice _ _ _ => .build
  | .call c => match c.callee with
    | .value _ => .call
    | _ => if isLen c.callee then .pure else if isAppend c.callee then .app else .store
  | .move _ | .assign _ | .pick .. | .build .. | .fieldAddr .. | .indexAddr .. | .index .. | .slice .. | .extract .. | .nilCheck _ | .binOp .. | .unOp .. | .convert .. => .pure
  | _ => .store

/-- The pairs that may be carried out either way round. -/
def swaps : Cl → Cl → Bool
  | .pure, _ | _, .pure => true
  | .store, _ | _, .store => false
  | .load, _ | _, .load => true
  | .alloc, .build | .build, .alloc | .alloc, .app | .app, .alloc | .alloc, .call | .call, .alloc => true
  | .build, .build | .build, .app | .app, .build => true
  | _, _ => false

/-- A number reckoned before it is handed on. -/
def force {α : Type} (n : Nat) (f : Nat → α) : α := match n with
  | 0 => f 0
  | k + 1 => f (k + 1)

/-- The operations that an operation is behind, by its edges, as the bits of a number, given those of the earlier ones. -/
def maskE (done : List Nat) : List Edge → Nat
  | [] => 0
  | e :: es => if Region.binds .any e then maskE done es ||| (2 ^ e.on ||| done.getD e.on 0) else maskE done es

def maskGo {α : Type} : List Oper → List Nat → (List Nat → α) → α
  | [], done, f => f done
  | o :: rest, done, f => force (maskE done o.after.toList) fun n => maskGo rest (done ++ [n]) f

def isPure : Cl → Bool
  | .pure => true
  | _ => false

def dstOk (o : Oper) : Bool := match clsOp o.op with
  | .store | .call => true
  | _ => o.dst.isSome

/-- An operation hangs on earlier ones alone. -/
def edgesOk : List Oper → Nat → Bool
  | [], _ => true
  | o :: rest, i => (o.after.toList.all fun e => !Region.binds .any e || Nat.blt e.on i) && edgesOk rest (i + 1)

/-- Each two operations of the region are ordered by edges, or may be swapped. -/
def drawRow (ops : Array Oper) (o : Oper) (m : Nat) : List Oper → Nat → Bool
  | [], _ => true
  | p :: rest, i => (m.testBit i || (swaps (clsOp p.op) (clsOp o.op) && Oper.apart ops p o && dstOk p && dstOk o)) && drawRow ops o m rest (i + 1)

def drawGo (ops : Array Oper) : List Oper → List Oper → List Nat → Bool
  | [], _, _ => true
  | o :: rest, done, ms => drawRow ops o (ms.getD done.length 0) done 0 && drawGo ops rest (done ++ [o]) ms

/-- A call that turns boxes: it may be swapped with what looks at its operands alone. -/
def isLoad : Cl → Bool
  | .load => true
  | _ => false

def effRow (keep : Bool) (eff : Nat → Bool) (ms : List Nat) (k : Nat) : List Oper → Nat → Bool
  | [], _ => true
  | p :: rest, i => (Nat.beq i k || (ms.getD k 0).testBit i || (ms.getD i 0).testBit k || isPure (clsOp p.op) || (keep && Nat.blt i k && eff i && isLoad (clsOp p.op))) && effRow keep eff ms k rest (i + 1)

def isLoadAt (ops : Array Oper) (k : Nat) : Bool := match ops[k]? with
  | some o => isLoad (clsOp o.op)
  | none => false

/-- A call of a function value. -/
def goCall : Op → Option (Operand × List Operand)
  | .call c => match c.callee with
    | .value f => some (f, c.args.toList)
    | _ => none
  | _ => none

def isCallAt (ops : Array Oper) (k : Nat) : Bool := match ops[k]? with
  | some o => (goCall o.op).isSome
  | none => false

def regionOk (keep : Bool) (eff : Nat → Bool) (ops : Array Oper) : Bool :=
  edgesOk ops.toList 0 && maskGo ops.toList [] fun ms => drawGo ops ops.toList [] ms && (List.range ops.size).all fun k => !eff k || isLoadAt ops k || effRow (keep && isCallAt ops k) eff ms k ops.toList 0

/-- j stands before i. -/
def befB : List Nat → Nat → Nat → Bool
  | [], _, _ => false
  | x :: xs, j, i => if Nat.beq x j then xs.any (Nat.beq i ·) else if Nat.beq x i then false else befB xs j i

def confB (cf : List (Nat × Nat)) (j i : Nat) : Bool := cf.any fun p => (Nat.beq p.1 j && Nat.beq p.2 i) || (Nat.beq p.1 i && Nat.beq p.2 j)

/-- Whatever order the operations in question take, one of the orders has it. -/
def covB (ms : List Nat) (cf : List (Nat × Nat)) : Nat → List Nat → List (List Nat) → Bool
  | 0, S, _ => S.isEmpty
  | n + 1, S, os => S.all fun i => (S.any fun j => (ms.getD i 0).testBit j) ||
      (!(os.filter fun w => S.all fun j => !confB cf j i || befB w i j).isEmpty &&
        covB ms cf n (S.filter fun j => !Nat.beq j i) (os.filter fun w => S.all fun j => !confB cf j i || befB w i j))

/-- An order of all operations, each behind those that it hangs on; two of which the first stands before the second may change places, or are among the pairs in question. -/
def listOk (ops : Array Oper) (ms : List Nat) (cf : List (Nat × Nat)) : List Nat → List Nat → Bool
  | [], _ => true
  | i :: rest, pre => (match ops[i]? with
      | some o => !(pre.any (Nat.beq i ·)) && (o.after.toList.all fun e => !Region.binds .any e || pre.any (Nat.beq e.on ·)) &&
        (pre.all fun j => (ms.getD i 0).testBit j || confB cf j i || (match ops[j]? with
          | some p => swaps (clsOp p.op) (clsOp o.op) && Oper.apart ops p o && dstOk p && dstOk o
          | none => false))
      | none => false) && listOk ops ms cf rest (pre ++ [i])

def ordOk (cf : List (Nat × Nat)) (os : List (List Nat)) (ops : Array Oper) : Bool :=
  edgesOk ops.toList 0 && maskGo ops.toList [] fun ms =>
    !os.isEmpty && (os.all fun w => listOk ops ms cf w [] && (List.range ops.size).all fun i => w.any (Nat.beq i ·)) &&
    covB ms cf ops.size ((List.range ops.size).filter fun i => (List.range ops.size).any fun j => confB cf j i) os

/-- What is asked of a function's code, once: its regions that draw their order. -/
def codeOk (h : Hint) : Code → Bool
  | .region id ops draw => !draw || (match h.ord id with
    | none => regionOk h.keep (h.eff id) ops
    | some (cf, os) => ordOk cf os ops)
  | .seq a b => codeOk h a && codeOk h b
  | .cond _ a b => codeOk h a && codeOk h b
  | .block _ c => codeOk h c
  | .loop c => codeOk h c
  | .scope c => codeOk h c
  | .rangeFunc _ _ a b => !h.flat && codeOk h a && codeOk h b
  | _ => true

/-! ### Running code -/
def look {α : Type} : List (Nat × Option α) → Nat → Option α
  | [], _ => none
  | (u, v) :: r, t => if Nat.beq t u then v else look r t

def firstRegion : Code → Nat
  | .region id _ _ => id
  | .seq a _ => firstRegion a
  | .block _ b => firstRegion b
  | .loop b => firstRegion b
  | .scope b => firstRegion b
  | _ => 0

/-- The rows that a loop adds to, under the names of the variables that hold them. -/
def canonTm : List (Nat × Option Nat) → St → St
  | [], s => s
  | (_, none) :: rest, s => canonTm rest s
  | (t, some sz) :: rest, s => match s.tm t with
    | some (.own i z es) =>
      let s1 := demSt (.tmp s.g.dp t 0) (demSt i s)
      canonTm rest { s1 with tm := upd s1.tm t (some (.own (.tmp s.g.dp t 0) z es)) }
    | some (.d .nils) =>
      let s1 := demSt (.tmp s.g.dp t 0) s
      canonTm rest { s1 with tm := upd s1.tm t (some (.own (.tmp s.g.dp t 0) sz [])) }
    | _ => canonTm rest s

def canonBox1 (t : Nat) : List (Nat × Nat) → St → St
  | [], s => s
  | (j, sz) :: rest, s => match s.g.bx s.g.dp t with
    | some b => match b.lock, b.cells[j]? with
      | false, some (.d .nils) =>
        let s1 := demSt (.box s.g.dp t j) s
        match s1.g.bx s.g.dp t with
        | some b1 => canonBox1 t rest { s1 with g := { s1.g with bx := fun d' u' => if Nat.beq d' s.g.dp && Nat.beq u' t then some { b1 with cells := setCells b1.cells j [.own (.box s.g.dp t j) sz []] } else s1.g.bx d' u' } }
        | none => canonBox1 t rest s1
      | _, _ => canonBox1 t rest s
    | none => canonBox1 t rest s

def canonBox : List (Nat × List (Nat × Nat)) → St → St
  | [], s => s
  | (t, fs) :: rest, s => canonBox rest (canonBox1 t fs s)

def keptTm (tm : Nat → Option AV) (dp : Nat) (bs : List Nat) : List (Nat × Option Nat) → Bool
  | [] => true
  | (t, _) :: rest => (match tm t with
    | some a => AV.within dp bs a
    | none => true) && keptTm tm dp bs rest

def keptBx (bx : Nat → Nat → Option Box) (dp : Nat) (bs : List Nat) : List (Nat × List (Nat × Nat)) → Bool
  | [] => true
  | (t, _) :: rest => (match bx dp t with
    | some b => AV.withins dp bs b.cells
    | none => true) && keptBx bx dp bs rest

/-- A row stays one's own under the name of the temporary that holds it. -/
def keepOwn (dp t : Nat) : AV → AV
  | .own (.tmp d u j) z es => if Nat.beq d dp && Nat.beq u t then .own (.tmp d u j) z es else .d (.sl z es)
  | a => demAll a

/-- At a loop's head: what the hint lists is kept, the rest let go. -/
def headSt (h : Hint) (id : Nat) (s : St) : Option St := match h.loops id with
  | none => some s
  | some (kt, kb) =>
    let s := canonBox kb (canonTm kt s)
    let bs := kb.map (·.1)
    if keptTm s.tm s.g.dp bs kt && keptBx s.g.bx s.g.dp bs kb then
      some { tm := look (kt.map fun p => (p.1, match p.2 with
               | some _ => match s.tm p.1 with
                 | some a => some (keepOwn s.g.dp p.1 a)
                 | none => none
               | none => match s.tm p.1 with
                 | some a => some (demAll a)
                 | none => none)),
             fr := fun t => kt.any fun p => Nat.beq p.1 t && p.2.isSome,
             g := { s.g with bx := fun d t => if Nat.beq d s.g.dp then look (kb.map fun p => (p.1, s.g.bx s.g.dp p.1)) t else s.g.bx d t } }
    else none

/-! ### Raw rows that turn into owned ones -/
def cook1 (p : Nat × Option Nat) (s : St) : St := match p with
  | (t, none) => match s.tm t with
    | some (.raw none _ i sz es) =>
      let s1 := demSt i s
      { s1 with tm := upd s1.tm t (some (.own i sz es)) }
    | _ => s
  | (t, some off) => match s.tm t with
    | some (.ptr d u o) => match s.g.bx d u with
      | some b => match b.lock, b.cells[o + off]? with
        | false, some (.raw none _ i sz es) =>
          let s1 := demSt i s
          match s1.g.bx d u with
          | some b1 => { s1 with g := { s1.g with bx := fun d' u' => if Nat.beq d' d && Nat.beq u' u then some { b1 with cells := setCells b1.cells (o + off) [.own i sz es] } else s1.g.bx d' u' } }
          | none => s1
        | _, _ => s
      | none => s
    | _ => s

def cookAll : List (Nat × Option Nat) → St → St
  | [], s => s
  | p :: ps, s => cookAll ps (cook1 p s)

/-- What follows a region, behind its cooking. -/
def cooked {R : Type} (k : Ex → St → Option R) (ps : List (Nat × Option Nat)) : Ex → St → Option R := fun e s => match e with
  | .normal => k .normal (cookAll ps s)
  | e => k e s

/- Rows of boxes let go, at the depths that f says. -/
mutual
  def demF (f : Nat → Bool) : AV → AV
    | .own (.box d t j) sz es => match f d with
      | true => .d (.sl sz es)
      | false => .own (.box d t j) sz es
    | .raw o k (.box d t j) sz es => match f d with
      | true => .old o sz es.length
      | false => .raw o k (.box d t j) sz es
    | .tup xs => .tup (demFs f xs)
    | a => a
  def demFs (f : Nat → Bool) : List AV → List AV
    | [] => []
    | a :: as => demF f a :: demFs f as
end
def atD (dp : Nat) : Nat → Bool := fun d => Nat.beq d dp
def offD (dp : Nat) : Nat → Bool := fun d => !(Nat.beq d dp)
def mapBx (φ : List AV → List AV) (o : Option Box) : Option Box := match o with
  | some b => some { b with cells := φ b.cells }
  | none => none
/-- The frame's boxes put aside, with their rows. -/
def kG (g : G) : G := { bx := fun d t => match Nat.beq d g.dp with
    | true => none
    | false => mapBx (demFs (atD g.dp)) (g.bx d t), dp := g.dp - 1, lp := g.lp }
/-- And taken up again. -/
def kunG (g g' : G) : G := { bx := fun d t => match Nat.beq d g.dp with
    | true => mapBx (demFs (offD g.dp)) (g.bx d t)
    | false => mapBx (demFs (atD g.dp)) (g'.bx d t), dp := g.dp, lp := g'.lp }

/-- What a callee may be. -/
inductive Cal where
  | fn (f : Fn)
  | yld (l : Nat)

structure Cx (R : Type) where
  T : Nat → Option TI
  fuel : Nat
  C : Fn → List D → Option Out
  E : Cal → List AV → G → (Out → G → Option R) → Option R
  hint : Hint
  fid : FuncId
  nt : Nat

section
variable {R : Type} (cx : Cx R)

def loopN (h : Hint) (id : Nat) (body : St → (Ex → St → Option R) → Option R) : Nat → St → (Ex → St → Option R) → Option R
  | 0, _, _ => none
  | m + 1, s, k => match headSt h id s with
    | none => none
    | some s' => body s' fun e s'' => match e with
      | .normal => loopN h id body m s'' k
      | e => k e s''

/-- Behind a call that may turn boxes. -/
def behind (dst : Option Nat) (s : St) (k : Ex → St → Option R) : Out → G → Option R
  | .ret rs, g => match putRes cx.nt dst rs { tm := mapTm demBoxes s.tm, fr := s.fr, g } with
    | some s => k .normal s
    | none => none
  | .pan x, g => k (.panic x) { tm := mapTm demBoxes s.tm, fr := s.fr, g }

def behindF (φ : AV → AV) (dst : Option Nat) (s : St) (k : Ex → St → Option R) : Out → G → Option R
  | .ret rs, g => match putRes cx.nt dst rs { tm := mapTm φ s.tm, fr := s.fr, g } with
    | some s => k .normal s
    | none => none
  | .pan x, g => k (.panic x) { tm := mapTm φ s.tm, fr := s.fr, g }

/-- A call that may turn boxes. -/
def callE (dst : Option Nat) (fn : Fn) (as : List AV) (s : St) (k : Ex → St → Option R) : Option R := match cx.hint.keep with
  | false => cx.E (.fn fn) as s.g (behind cx dst s k)
  | true => match Nat.ble 1 s.g.dp && AV.uptos (s.g.dp - 1) as && s.g.lp.all (fun r => Nat.blt r.dp s.g.dp) with
    | true => cx.E (.fn fn) as (kG s.g) fun out g' => behindF cx (demF (offD s.g.dp)) dst s k out (kunG s.g g')
    | false => none

def callA (eff : Bool) (dst : Option Nat) (f : AV) (args : List AV) (s : St) (k : Ex → St → Option R) : Option R :=
  match f with
  | .d (.fn fn caps) => match AV.datas args with
    | some ds => match cx.C fn (ds ++ caps) with
      | some (.ret rs) => match putRes cx.nt dst rs s with
        | some s' => k .normal s'
        | none => none
      | some (.pan x) => k (.panic x) s
      | none => none
    | none => if eff then callE cx dst fn (args.map ownData ++ caps.map .d) s k else none
  | .fn fn caps => if eff then callE cx dst fn (args.map ownData ++ caps) s k else none
  | .yld l => if eff && !cx.hint.keep then cx.E (.yld l) (args.map ownData) s.g (behind cx dst s k) else none
  | _ => none

def runOp (eff : Bool) (o : Oper) (s : St) (k : Ex → St → Option R) : Option R :=
  match goCall o.op with
  | some (f, args) => match ev s.tm f, evs s.tm args with
    | some a, some as => if as.all noTup then callA cx eff o.dst a as s k else none
    | _, _ => none
  | none => match stepOp cx.T cx.hint cx.nt o s with
    | some s' => k .normal s'
    | none => none

def runG (eff : Bool) (ops : Array Oper) (o : Oper) (s : St) (k : Ex → St → Option R) : Option R :=
  match o.guard with
  | none => runOp cx eff o s k
  | some (g, want) => match guardV ops s.tm g with
    | some (some b) => if b == want then runOp cx eff o s k
        else match putV cx.nt o.dst (.tup []) s with
          | some s' => k .normal s'
          | none => none
    | some none => match putV cx.nt o.dst (.tup []) s with
          | some s' => k .normal s'
          | none => none
    | none => none

def runOps (eff : Nat → Bool) (ops : Array Oper) : List Oper → Nat → St → (Ex → St → Option R) → Option R
  | [], _, s, k => k .normal s
  | o :: rest, i, s, k => runG cx (eff i) ops o s fun e s' => match e with
    | .normal => runOps eff ops rest (i + 1) s' k
    | e => k e s'

/-- Whether it loads of the frame's own box. -/
def ownLd (o : Oper) (s : St) : Bool := match o.op with
  | .load _ p => match ev s.tm p with
    | some (.ptr d _ _) => Nat.beq d s.g.dp
    | _ => false
  | _ => true

/-- The same, in a region that draws its order: a load that is marked is of the frame's own box. -/
def runC (eff : Bool) (ops : Array Oper) (o : Oper) (s : St) (k : Ex → St → Option R) : Option R := match eff && !ownLd o s with
  | true => none
  | false => runG cx eff ops o s k

def runOpsC (eff : Nat → Bool) (ops : Array Oper) : List Oper → Nat → St → (Ex → St → Option R) → Option R
  | [], _, s, k => k .normal s
  | o :: rest, i, s, k => runC cx (eff i) ops o s fun e s' => match e with
    | .normal => runOpsC eff ops rest (i + 1) s' k
    | e => k e s'

/-- A panic, of an interface value. -/
def panicOp (o : Oper) : Option Operand := match o.guard, o.op with
  | none, .panic x => some x
  | _, _ => none

/-- In the order of the text, panics too. -/
def runOpsP (ops : Array Oper) : List Oper → Nat → St → (Ex → St → Option R) → Option R
  | [], _, s, k => k .normal s
  | o :: rest, i, s, k => match panicOp o with
    | some x => match ev s.tm x with
      | some (.d (.iface t v)) => k (.panic (.iface t v)) s
      | _ => none
    | none => runG cx true ops o s fun e s' => match e with
      | .normal => runOpsP ops rest (i + 1) s' k
      | e => k e s'

/-- Operations in another order. -/
def runO (ops : Array Oper) : List Nat → St → (St → Option R) → Option R
  | [], s, k => k s
  | i :: rest, s, k => match ops[i]? with
    | some o => runG cx false ops o s fun e s' => match e with
      | .normal => runO ops rest s' k
      | _ => none
    | none => none

/-- In each of some orders. -/
def runOs [Same R] (ops : Array Oper) : List (List Nat) → St → (St → Option R) → Option R
  | [], _, _ => none
  | w :: ws, s, k => match ws with
    | [] => runO cx ops w s k
    | _ :: _ => both (runO cx ops w s k) (runOs ops ws s k)

def enterRange (dst : Nat → Option AV) (s : St) (params : List Nat) (assign body : Code) : G :=
  { s.g with lp := s.g.lp ++ [{ fid := cx.fid, dp := s.g.dp, nt := cx.nt, hint := cx.hint, tm := dst, params, assign, body, pend := none }] }

def exec [Same R] : Code → St → (Ex → St → Option R) → Option R
  | .skip, s, k => k .normal s
  | .label _, s, k => k .normal s
  | .exit id, s, k => k (.exit id) s
  | .goto l, s, k => k (.goto l) s
  | .ret, s, k => k .ret s
  | .seq a b, s, k => exec a s fun e s' => match e with
    | .normal => exec b s' k
    | e => k e s'
  | .cond c a b, s, k => match ev s.tm c with
    | some (.d (.bool t)) => match t with
      | true => exec a s k
      | false => exec b s k
    | _ => none
  | .block id c, s, k => exec c s fun e s' => match e with
    | .exit i => if Nat.beq i id then k .normal s' else k (.exit i) s'
    | e => k e s'
  | .loop c, s, k => loopN cx.hint (firstRegion c) (fun s k => exec c s k) cx.fuel s k
  | .scope c, s, k => exec c s fun e s' => match e with
    | .goto _ => none
    | e => k e s'
  | .region id ops draw, s, k =>
    match draw with
    | true => match cx.hint.ord id with
      | none => runOpsC cx (cx.hint.eff id) ops ops.toList 0 s fun e s => match e with
        | .normal => k .normal (cookAll (cx.hint.cook id) s)
        | _ => none
      | some (_, os) => runOs cx ops os s fun s => k .normal (cookAll (cx.hint.cook id) s)
    | false => runOpsP cx ops ops.toList 0 s (cooked k (cx.hint.cook id))
  | .rangeFunc f params assign body, s, k =>
    match ev s.tm f with
    | some a =>
      let tm := mapTm demAll s.tm
      let done : Out → G → Option R := fun out g => match out with
        | .ret _ => match g.lp[s.g.lp.length]? with
          | some r => match r.pend with
            | some .normal => none
            | none => k .normal { tm, fr := fun _ => false, g := { g with lp := g.lp.take s.g.lp.length } }
            | some e => k e { tm, fr := fun _ => false, g := { g with lp := g.lp.take s.g.lp.length } }
          | none => none
        | .pan _ => none
      match a with
      | .d (.fn fn caps) => cx.E (.fn fn) (.yld s.g.lp.length :: caps.map .d) (enterRange cx tm s params.toList assign body) done
      | .fn fn caps => cx.E (.fn fn) (.yld s.g.lp.length :: caps) (enterRange cx tm s params.toList assign body) done
      | _ => none
    | none => none
  | .refuse _, _, _ => none

/-! ### Deferred calls -/
/-- A region of which the last operation defers the call of a closure. -/
def deferIn : Code → Option (Array Oper × Operand)
  | .region _ ops draw => match draw with
    | true => none
    | false => match ops.back? with
      | some o => match o.guard, o.dst, o.op with
        | none, none, .defer c => match c.callee, c.args.toList with
          | .value f, [] => some (ops, f)
          | _, _ => none
        | _, _, _ => none
      | none => none
  | _ => none

def cloQ : AV → Bool
  | .fn _ _ => true
  | .d (.fn _ _) => true
  | _ => false

/-- What lies behind a deferral runs as if in a frame of its own. -/
def deeper (s : St) : St := { tm := mapTm demAll s.tm, fr := fun _ => false, g := { s.g with dp := s.g.dp + 1 } }

/-- Code that may defer one call: kd takes what comes behind the deferral. -/
def execD [Same R] : Code → St → (Ex → St → Option R) → (AV → Ex → St → Option R) → Option R
  | .seq a b, s, k, kd => match deferIn a with
    | some (ops, x) => runOps cx (fun _ => true) ops (ops.toList.take (ops.size - 1)) 0 s fun e s' => match e with
      | .normal => match ev s'.tm x with
        | some f => match cloQ f with
          | true => exec cx b (deeper s') (kd f)
          | false => none
        | none => none
      | _ => none
    | none => exec cx a s fun e s' => match e with
      | .normal => execD b s' k kd
      | e => k e s'
  | c, s, k, _ => exec cx c s k

/-- A closure that recovers first. -/
def recOf (F : Func) : Option (Nat × Array Oper × Code) := match F.body with
  | some (.seq (.region _ ops draw) b) => match draw, ops[0]? with
    | false, some o => match o.guard, o.dst, o.op with
      | none, some d, .call c => match c.callee with
        | .builtin r => match r, F.results.toList with
          | .recover, [] => some (d, ops, b)
          | _, _ => none
        | _ => none
      | _, _, _ => none
    | _, _ => none
  | _ => none

/-- The operations behind the first, none of them a call of Go code. -/
def stepsS (ops : Array Oper) : List Oper → St → (St → Option R) → Option R
  | [], s, k => k s
  | o :: rest, s, k => match o.guard, goCall o.op with
    | none, none => match stepOp cx.T cx.hint cx.nt o s with
      | some s' => stepsS ops rest s' k
      | none => none
    | _, _ => none

/-- The closure's run, as a deferred call: rv is what it recovers. -/
def runRec [Same R] (d : Nat) (ops : Array Oper) (b : Code) (rv : D) (s : St) (k : Ex → St → Option R) : Option R :=
  if Nat.blt d cx.nt then stepsS cx ops (ops.toList.drop 1) { s with tm := upd s.tm d (some (.d rv)) } fun s => exec cx b s k
  else none
end

/-- What of a frame's temporaries is read behind its deferred call. -/
def keepLow (n : Nat) : AV → Option AV
  | .d x => some (.d x)
  | .ptr d t o => if Nat.ble d n then some (.ptr d t o) else none
  | _ => none
def lowTm (n : Nat) (tm : Nat → Option AV) : Nat → Option AV := fun t => match tm t with
  | some a => keepLow n a
  | none => none

/-! ### Calls -/
def argTm : List AV → Nat → Option AV
  | [], _ => none
  | a :: as, t => match t with
    | 0 => some a
    | t + 1 => argTm as t

/- What is handed back leads to no box of the frame: a box that is captured is frozen. -/
mutual
  def retAV (bx : Nat → Nat → Option Box) (dp : Nat) : AV → Option AV
    | .d x => some (.d x)
    | .own _ sz es => some (.d (.sl sz es))
    | .ptr d t off => if Nat.blt d dp then some (.ptr d t off) else match bx d t with
      | some b => match AV.datas b.cells with
        | some cs => if Nat.ble off cs.length then some (.d (.at (cs.drop off))) else none
        | none => none
      | none => none
    | .fn f caps => match retAVs bx dp caps with
      | some cs => some (mkFn f cs)
      | none => none
    | .tup _ => none
    | .yld l => some (.yld l)
    | .raw _ _ _ _ _ => none
    | .old _ _ _ => none
  def retAVs (bx : Nat → Nat → Option Box) (dp : Nat) : List AV → Option (List AV)
    | [] => some []
    | a :: as => match retAV bx dp a with
      | some x => match retAVs bx dp as with
        | some xs => some (x :: xs)
        | none => none
      | none => none
end

/-- The results, an owned row under the name of its place among them. -/
def retRes (bx : Nat → Nat → Option Box) (dp : Nat) : Nat → List Id → List AV → Option (List AV)
  | _, _, [] => some []
  | j, seen, a :: as => match a with
    | .own i sz es => match retRes bx dp (j + 1) (i :: seen) as with
      | some xs => some ((if seen.any (fun k => decide (k = i)) then .d (.sl sz es) else .own (.res j) sz es) :: xs)
      | none => none
    | a => match retAV bx dp a with
      | some x => match retRes bx dp (j + 1) seen as with
        | some xs => some (x :: xs)
        | none => none
      | none => none

/-- The boxes let go of the rows that are handed back. -/
def demRes : List AV → (Nat → Nat → Option Box) → (Nat → Nat → Option Box)
  | [], bx => bx
  | .own i _ _ :: rest, bx => demRes rest (demBx i bx)
  | _ :: rest, bx => demRes rest bx

def resVars (T : Nat → Option TI) (s : St) : List ResultVar → Option (List AV)
  | [] => some []
  | .tmp t :: rest => match s.tm t with
    | some a => match resVars T s rest with
      | some as => some (a :: as)
      | none => none
    | none => none
  | .cell t ty :: rest => match s.tm t with
    | some p => match loadA T s.g.bx ty p with
      | some a => match resVars T s rest with
        | some as => some (nrmA T ty a :: as)
        | none => none
      | none => none
    | none => none

def popG (g : G) (dp : Nat) : G := { g with dp := dp - 1, bx := fun d t => if Nat.beq d dp then none else g.bx d t }

def closedAV : AV → Bool
  | .d _ => true
  | .own _ _ _ => true
  | _ => false

def G0 : G := { bx := fun _ _ => none, dp := 0, lp := [] }

def purify : Out → G → Option Out
  | .ret rs, _ => if rs.all closedAV then some (.ret rs) else none
  | .pan x, _ => some (.pan x)

structure Pr where
  T : Nat → Option TI
  F : FuncId → Option Func
  H : FuncId → Hint
  K : FuncId → Option (List D → Option Out)
  fuel : Nat
  X : FuncId → Option (List AV → G → Option (Bool × Out × G)) := fun _ => none

/-- A deferred closure's call, in a frame at depth d1: rv is what it recovers. -/
def recCall {R : Type} [Same R] (p : Pr) (cxOf : FuncId → Func → Cx R) (d1 : Nat) (f' : FuncId) (caps : List AV) (rv : D) (g : G) (k : Ex → St → Option R) : Option R :=
  match p.F f' with
  | some F' => match recOf F' with
    | some (d, ops, b) => match Nat.ble caps.length F'.ntmps && (p.H f').flat with
      | true => runRec (cxOf f' F') d ops b rv { tm := argTm caps, fr := fun _ => false, g := { popG g (d1 + 1) with dp := d1 + 1 } } k
      | false => none
    | none => none
  | none => none
def recAV {R : Type} [Same R] (p : Pr) (cxOf : FuncId → Func → Cx R) (d1 : Nat) (a : AV) (rv : D) (g : G) (k : Ex → St → Option R) : Option R := match a with
  | .fn (.func f') caps => recCall p cxOf d1 f' caps rv g k
  | .d (.fn (.func f') ds) => recCall p cxOf d1 f' (ds.map .d) rv g k
  | _ => none
/-- Behind it the frame leaves. -/
def afterRec {R : Type} (d1 : Nat) (tm : Nat → Option AV) (done : St → Option R) : Ex → St → Option R := fun e s' => match e with
  | .normal => done { tm := lowTm d1 tm, fr := fun _ => false, g := popG s'.g (d1 + 1) }
  | .ret => done { tm := lowTm d1 tm, fr := fun _ => false, g := popG s'.g (d1 + 1) }
  | _ => none

/-- The arguments of a call on data, as the callee reads them. -/
def nrmArgs (p : Pr) (f : FuncId) (ds : List D) : List D := match p.F f with
  | some F => nrmDs p.T F.params.toList ds
  | none => ds

def setPend (l : Nat) (e : Option Ex) (g : G) : G := { g with lp := g.lp.modify l fun r => { r with pend := e } }

def distinct : List Nat → Bool
  | [] => true
  | x :: xs => !(xs.any (Nat.beq x ·)) && distinct xs

/-- The frame's boxes put aside. -/
def hidG (g : G) : G := { bx := fun d t => if Nat.beq d g.dp then none else g.bx d t, dp := g.dp - 1, lp := g.lp }
/-- And taken up again; their rows are one's own no more. -/
def unG (g g' : G) : G := { bx := fun d t => if Nat.beq d g.dp then (match g.bx d t with
    | some b => some { b with cells := demAlls b.cells }
    | none => none) else g'.bx d t, dp := g.dp, lp := g'.lp }

def hideE {R : Type} (on : Bool) (E : Cal → List AV → G → (Out → G → Option R) → Option R) : Cal → List AV → G → (Out → G → Option R) → Option R := fun cal args g k => match cal with
  | .fn f => if on && Nat.ble 1 g.dp && AV.uptos (g.dp - 1) args && g.lp.all (fun r => Nat.blt r.dp g.dp) then E (.fn f) args (hidG g) (fun out g' => k out (unG g g')) else E (.fn f) args g k
  | .yld l => E (.yld l) args g k

def run (p : Pr) : Nat → (R : Type) → [Same R] → Cal → List AV → G → (Out → G → Option R) → Option R
  | 0, _, _, _, _, _, _ => none
  | n + 1, R, _, c, args, g, k =>
    let C : Fn → List D → Option Out := fun fn ds => match fn with
      | .func f => match p.K f with
        | some kf => kf ds
        | none => run p n Out (.fn fn) ((nrmArgs p f ds).map .d) G0 purify
      | _ => none
    match c with
    | .fn (.func f) => match p.X f with
      | some x => match x args g with
        | some (c, out, g') => match c with
          | true => k out g'
          | false => none
        | none => none
      | none => match p.F f with
        | some F => match F.body with
          | some code => if Nat.ble args.length F.ntmps then
            let cx : Cx R := { T := p.T, fuel := p.fuel, C, E := hideE (p.H f).hide (run p n R), hint := p.H f, fid := f, nt := F.ntmps }
            let s0 : St := { tm := argTm args, fr := fun _ => false, g := { g with dp := g.dp + 1 } }
            let done : St → Option R := fun s => match resVars p.T s F.results.toList with
              | some rs => match retRes s.g.bx (g.dp + 1) 0 [] rs with
                | some rs' => k (.ret rs') (popG { s.g with bx := demRes rs s.g.bx } (g.dp + 1))
                | none => none
              | none => none
            let fin : Ex → St → Option R := fun e s => match e with
              | .panic x => k (.pan x) (popG s.g (g.dp + 1))
              | .exit _ => none
              | .goto _ => none
              | _ => done s
            match (p.H f).dfr with
            | false => exec cx code s0 fin
            | true => match (p.H f).flat with
              | false => none
              | true =>
                let cxOf : FuncId → Func → Cx R := fun f' F' => { T := p.T, fuel := p.fuel, C, E := hideE (p.H f').hide (run p n R), hint := p.H f', fid := f', nt := F'.ntmps }
                execD cx code s0 fin fun a e s => match e with
                  | .panic x => recAV p cxOf (g.dp + 1) a x s.g (afterRec (g.dp + 1) s.tm done)
                  | .normal => recAV p cxOf (g.dp + 1) a .nili s.g (afterRec (g.dp + 1) s.tm done)
                  | .ret => recAV p cxOf (g.dp + 1) a .nili s.g (afterRec (g.dp + 1) s.tm done)
                  | _ => none
            else none
          | none => none
        | none => none
    | .fn _ => none
    | .yld l => match g.lp[l]? with
      | some r => match r.pend, AV.datas args with
        | none, some ds =>
          let cx : Cx R := { T := p.T, fuel := p.fuel, C, E := hideE r.hint.hide (run p n R), hint := r.hint, fid := r.fid, nt := r.nt }
          if Nat.beq ds.length r.params.length && distinct r.params && r.params.all (Nat.blt · r.nt) then
            exec cx r.assign { tm := fun t => match look (r.params.zip (ds.map fun x => some (AV.d x))) t with
              | some a => some a
              | none => r.tm t, fr := fun _ => false, g := { g with dp := g.dp + 1 } } fun e s => match e with
                | .normal => match s.g.lp[l]? with
                  | some r1 => match r1.pend with
                    | none => exec cx r.body { tm := s.tm, fr := s.fr, g := setPend l (some .normal) s.g } fun e s => match e with
                      | .normal => k (.ret [.d (.bool true)]) (setPend l none (popG s.g (g.dp + 1)))
                      | .panic _ => none
                      | e => k (.ret [.d (.bool false)]) (setPend l (some e) (popG s.g (g.dp + 1)))
                    | some _ => none
                  | none => none
                | _ => none
          else none
        | _, _ => none
      | none => none

/-- A call on data, by itself. -/
def pcall (p : Pr) (n : Nat) (f : FuncId) (ds : List D) : Option Out := run p n Out (.fn (.func f)) (ds.map .d) G0 purify

end Go.Abs
