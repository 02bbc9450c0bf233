/- What the claim rests on, part 1. -/
import Derived.WalkKit
import Derived.Deep.MidRow
namespace Go.Abs
inductive D where
 | bool (b : Bool)
 | int (k : IntKind) (n : Int)
 | str (s : ByteArray)
 | nilp
 | nilf
 | nili
 | nilm
 | nils
 | iface (t : TypeId) (x : D)
 | sl (sz : Nat) (es : List (List D))
 | full (sz : Nat) (es : List (List D))
 | fn (f : Fn) (caps : List D)
 | at (cs : List D)
 | agg (cs : List D)
 | emp (sz : Nat)
inductive Id where
 | tmp (d t j : Nat)
 | box (d t j : Nat)
 | res (j : Nat)
 deriving DecidableEq
inductive AV where
 | d (x : D)
 | own (i : Id) (sz : Nat) (es : List (List D))
 | ptr (d t off : Nat)
 | fn (f : Fn) (caps : List AV)
 | tup (xs : List AV)
 | yld (l : Nat)
 | raw (o : Option Nat) (k : Nat) (i : Id) (sz : Nat) (es : List (List D))
 | old (o : Option Nat) (sz n : Nat)
structure Box where
 cells : List AV
 frz : Bool
 ty : Nat × Nat
def Box.lock (b : Box) : Bool := b.frz || !(Nat.beq b.ty.1 0)
theorem Box.unlock {b : Box} (h : b.lock = false) : b.frz = false ∧ b.ty.1 = 0 := by
 simpa [Box.lock] using h
structure TI where
 size : Nat
 agg : Bool
 bytes : Nat
 zero : List D
 fields : List (Nat × Nat)
 elem : Nat
 kind : Nat
 sls : List Nat := []
 mark : Nat × Nat := (0, 0)
 int : Option IntKind := none
structure Hint where
 loops : Nat → Option (List (Nat × Option Nat) × List (Nat × List (Nat × Nat)))
 freeze : List Nat
 eff : Nat → Nat → Bool
 hide : Bool := false
 raw : List Nat := []
 cook : Nat → List (Nat × Option Nat) := fun _ => []
 ord : Nat → Option (List (Nat × Nat) × List (List Nat)) := fun _ => none
 pan : Nat → Option (Nat × List Nat × List Nat) := fun _ => none
 keep : Bool := false
 dfr : Bool := false
 flat : Bool := false
inductive Ex where
 | normal
 | exit (id : Nat)
 | goto (l : Nat)
 | ret
 | panic (x : D)
structure LoopRec where
 fid : FuncId
 dp : Nat
 nt : Nat
 hint : Hint
 tm : Nat → Option AV
 params : List Nat
 assign : Code
 body : Code
 pend : Option Ex
structure G where
 bx : Nat → Nat → Option Box
 dp : Nat
 lp : List LoopRec
structure St where
 tm : Nat → Option AV
 fr : Nat → Bool
 g : G
inductive Out where
 | ret (rs : List AV)
 | pan (x : D)
mutual
 def D.same : D → D → Bool
  | .bool a, .bool b => a == b
  | .int k a, .int l b => decide (k = l) && decide (a = b)
  | .str a, .str b => decide (a = b)
  | .nilp, .nilp => true
  | .nilf, .nilf => true
  | .nili, .nili => true
  | .nilm, .nilm => true
  | .nils, .nils => true
  | .iface t x, .iface u y => decide (t = u) && D.same x y
  | .sl z es, .sl y fs => decide (z = y) && D.samess es fs
  | .full z es, .full y fs => decide (z = y) && D.samess es fs
  | .fn (.func f) cs, .fn (.func g) ds => decide (f = g) && D.sames cs ds
  | .at cs, .at ds => D.sames cs ds
  | .agg cs, .agg ds => D.sames cs ds
  | .emp z, .emp y => decide (z = y)
  | _, _ => false
 def D.sames : List D → List D → Bool
  | [], [] => true
  | x :: xs, y :: ys => D.same x y && D.sames xs ys
  | _, _ => false
 def D.samess : List (List D) → List (List D) → Bool
  | [], [] => true
  | x :: xs, y :: ys => D.sames x y && D.samess xs ys
  | _, _ => false
end
mutual
 theorem D.same_eq : ∀ x y : D, D.same x y = true → x = y := by
  intro x y h
  match x, y, h with
  | .bool a, .bool b, h => simp only [D.same, beq_iff_eq] at h; rw [h]
  | .int k a, .int l b, h => simp only [D.same, Bool.and_eq_true, decide_eq_true_eq] at h; rw [h.1, h.2]
  | .str a, .str b, h => simp only [D.same, decide_eq_true_eq] at h; rw [h]
  | .nilp, .nilp, _ => rfl
  | .nilf, .nilf, _ => rfl
  | .nili, .nili, _ => rfl
  | .nilm, .nilm, _ => rfl
  | .nils, .nils, _ => rfl
  | .iface t x, .iface u y, h => simp only [D.same, Bool.and_eq_true, decide_eq_true_eq] at h; rw [h.1, D.same_eq x y h.2]
  | .sl z es, .sl y fs, h => simp only [D.same, Bool.and_eq_true, decide_eq_true_eq] at h; rw [h.1, D.samess_eq es fs h.2]
  | .full z es, .full y fs, h => simp only [D.same, Bool.and_eq_true, decide_eq_true_eq] at h; rw [h.1, D.samess_eq es fs h.2]
  | .fn (.func f) cs, .fn (.func g) ds, h => simp only [D.same, Bool.and_eq_true, decide_eq_true_eq] at h; rw [h.1, D.sames_eq cs ds h.2]
  | .at cs, .at ds, h => simp only [D.same] at h; rw [D.sames_eq cs ds h]
  | .agg cs, .agg ds, h => simp only [D.same] at h; rw [D.sames_eq cs ds h]
  | .emp z, .emp y, h => simp only [D.same, decide_eq_true_eq] at h; rw [h]
 theorem D.sames_eq : ∀ x y : List D, D.sames x y = true → x = y
  | [], [], _ => rfl
  | x :: xs, y :: ys, h => by simp only [D.sames, Bool.and_eq_true] at h; rw [D.same_eq x y h.1, D.sames_eq xs ys h.2]
  | [], _ :: _, h => by simp [D.sames] at h
  | _ :: _, [], h => by simp [D.sames] at h
 theorem D.samess_eq : ∀ x y : List (List D), D.samess x y = true → x = y
  | [], [], _ => rfl
  | x :: xs, y :: ys, h => by simp only [D.samess, Bool.and_eq_true] at h; rw [D.sames_eq x y h.1, D.samess_eq xs ys h.2]
  | [], _ :: _, h => by simp [D.samess] at h
  | _ :: _, [], h => by simp [D.samess] at h
end
def AV.same : AV → AV → Bool
 | .d x, .d y => D.same x y
 | .own i z es, .own j y fs => decide (i = j) && decide (z = y) && D.samess es fs
 | _, _ => false
def AV.sames : List AV → List AV → Bool
 | [], [] => true
 | x :: xs, y :: ys => AV.same x y && AV.sames xs ys
 | _, _ => false
def Out.same : Out → Out → Bool
 | .ret rs, .ret qs => AV.sames rs qs
 | .pan x, .pan y => D.same x y
 | _, _ => false
theorem AV.same_eq : ∀ x y : AV, AV.same x y = true → x = y := by
 intro x y h
 match x, y, h with
 | .d x, .d y, h => simp only [AV.same] at h; rw [D.same_eq x y h]
 | .own i z es, .own j y fs, h => simp only [AV.same, Bool.and_eq_true, decide_eq_true_eq] at h; rw [h.1.1, h.1.2, D.samess_eq es fs h.2]
theorem AV.sames_eq : ∀ x y : List AV, AV.sames x y = true → x = y
 | [], [], _ => rfl
 | x :: xs, y :: ys, h => by simp only [AV.sames, Bool.and_eq_true] at h; rw [AV.same_eq x y h.1, AV.sames_eq xs ys h.2]
 | [], _ :: _, h => by simp [AV.sames] at h
 | _ :: _, [], h => by simp [AV.sames] at h
theorem Out.same_eq : ∀ x y : Out, Out.same x y = true → x = y := by
 intro x y h
 match x, y, h with
 | .ret rs, .ret qs, h => simp only [Out.same] at h; rw [AV.sames_eq rs qs h]
 | .pan x, .pan y, h => simp only [Out.same] at h; rw [D.same_eq x y h]
class Same (R : Type) where
 same : R → R → Bool
 eq : ∀ a b, same a b = true → a = b
instance : Same Out := ⟨Out.same, Out.same_eq⟩
def both {R : Type} [Same R] (x y : Option R) : Option R := match x, y with
 | some a, some b => if Same.same a b then some a else none
 | _, _ => none
mutual
 def AV.data : AV → Option D
  | .d x => some x
  | .own _ sz es => some (.sl sz es)
  | .fn f caps => match AV.datas caps with
   | some ds => some (.fn f ds)
   | none => none
  | _ => none
 def AV.datas : List AV → Option (List D)
  | [] => some []
  | a :: as => match AV.data a with
   | some x => match AV.datas as with
    | some xs => some (x :: xs)
    | none => none
   | none => none
end
def nrm1 : Nat → D → D
 | k + 1, .nils => .sl (k + 1) []
 | _ + 1, .full z es => .sl z es
 | _ + 1, .emp z => .sl z []
 | _, x => x
def nrmC : List Nat → List D → List D
 | k :: ks, c :: cs => nrm1 k c :: nrmC ks cs
 | _, cs => cs
def nrmD (T : Nat → Option TI) (t : Nat) : D → D
 | .agg cs => match T t with
  | some ti => .agg (nrmC ti.sls cs)
  | none => .agg cs
 | x => x
def nrmA (T : Nat → Option TI) (t : Nat) : AV → AV
 | .d x => .d (nrmD T t x)
 | a => a
def nrmDs (T : Nat → Option TI) : List Nat → List D → List D
 | t :: ts, x :: xs => nrmD T t x :: nrmDs T ts xs
 | _, xs => xs
def D.cells : D → List D
 | .agg cs => cs
 | x => [x]
def AV.elems : AV → Option (List (List D))
 | .d .nils => some []
 | .d (.emp _) => some []
 | .d (.sl _ es) => some es
 | .d (.full _ es) => some es
 | .own _ _ es => some es
 | _ => none
def AV.row (sz : Nat) : AV → Option (List (List D))
 | .d .nils => some []
 | .d (.emp z) => if Nat.beq z sz then some [] else none
 | .d (.sl z es) => if Nat.beq z sz then some es else none
 | .d (.full z es) => if Nat.beq z sz then some es else none
 | .own _ z es => if Nat.beq z sz then some es else none
 | _ => none
def strRow (s : ByteArray) : List (List D) := s.data.toList.map fun c => [.int .u8 c.toNat]
def AV.rowS (t2 te : TI) (a : AV) : Option (List (List D)) := match t2.kind with
 | 3 => match a, te.int with
  | .d (.str s), some .u8 => if Nat.beq te.size 1 then some (strRow s) else none
  | _, _ => none
 | _ => AV.row te.size a
def AV.refs (sz : Nat) : AV → Option (List (List D))
 | .raw none _ _ z es => if Nat.beq z sz then some es else none
 | .old none z n => if Nat.beq z sz then some (List.replicate n []) else none
 | a => AV.row sz a
def AV.elem (n : Nat) (e : List D) : AV → AV
 | .raw none k i z es => .raw (some n) k i z es
 | .old none z m => .old (some n) z m
 | _ => .d (.at e)
def cvD : Value → Option D
 | .bool b => some (.bool b)
 | .int k n => some (.int k n)
 | .string s => some (.str s)
 | .slice none 0 0 => some .nils
 | .pointer none => some .nilp
 | .nilFunc => some .nilf
 | .nilIface => some .nili
 | .map none => some .nilm
 | _ => none
def cvDs : List Value → Option (List D)
 | [] => some []
 | v :: vs => match cvD v with
  | some x => match cvDs vs with
   | some xs => some (x :: xs)
   | none => none
  | none => none
def cv : Value → Option AV
 | .agg cs => match cvDs cs.toList with
  | some ds => some (.d (.agg ds))
  | none => none
 | v => match cvD v with
  | some x => some (.d x)
  | none => none
theorem cv_d {v : Value} {a : AV} (h : cv v = some a) : ∃ x, a = .d x := by
 unfold cv at h
 split at h
 ·split at h <;> simp at h
  exact ⟨_, h.symm⟩
 ·split at h <;> simp at h
  exact ⟨_, h.symm⟩
def D.val : D → Option Value
 | .bool b => some (.bool b)
 | .int k n => some (.int k n)
 | .str s => some (.string s)
 | _ => none
def vD : Value → Option D
 | .bool b => some (.bool b)
 | .int k n => some (.int k n)
 | .string s => some (.str s)
 | _ => none
def semV : Sem Value → Option AV
 | .pure v => match vD v with
  | some x => some (.d x)
  | none => none
 | _ => none
def ev (tm : Nat → Option AV) : Operand → Option AV
 | .tmp t => tm t
 | .const v => cv v
 | .func f => some (.d (.fn (.func f) []))
 | .global _ => none
def evs (tm : Nat → Option AV) : List Operand → Option (List AV)
 | [] => some []
 | x :: xs => match ev tm x with
  | some a => match evs tm xs with
   | some as => some (a :: as)
   | none => none
  | none => none
def upd (tm : Nat → Option AV) (d : Nat) (v : Option AV) : Nat → Option AV := fun t => if Nat.beq t d then v else tm t
mutual
 def dem (i : Id) : AV → AV
  | .own j sz es => if i = j then .d (.sl sz es) else .own j sz es
  | .raw o k j sz es => if i = j then .old o sz es.length else .raw o k j sz es
  | .tup xs => .tup (dems i xs)
  | .d x => .d x
  | .ptr e u o => .ptr e u o
  | .fn f c => .fn f c
  | .yld l => .yld l
  | .old o sz n => .old o sz n
 def dems (i : Id) : List AV → List AV
  | [] => []
  | a :: as => dem i a :: dems i as
end
mutual
 def setRaw (i : Id) (n sz : Nat) (c : List D) : AV → AV
  | .raw o k j z es => if i = j then (match Nat.beq z sz with
   | true => .raw o k j z (es.set n c)
   | false => .old o z es.length) else .raw o k j z es
  | .tup xs => .tup (setRaws i n sz c xs)
  | .d x => .d x
  | .ptr e u o => .ptr e u o
  | .fn f c => .fn f c
  | .yld l => .yld l
  | .old o sz n => .old o sz n
  | .own j z es => .own j z es
 def setRaws (i : Id) (n sz : Nat) (c : List D) : List AV → List AV
  | [] => []
  | a :: as => setRaw i n sz c a :: setRaws i n sz c as
end
def demBx (i : Id) (bx : Nat → Nat → Option Box) : Nat → Nat → Option Box := fun d t => match bx d t with
 | some b => some { b with cells := dems i b.cells }
 | none => none
def demTm (i : Id) (tm : Nat → Option AV) : Nat → Option AV := fun t => match tm t with
 | some a => some (dem i a)
 | none => none
def demSt (i : Id) (s : St) : St := { tm := demTm i s.tm, fr := s.fr, g := { s.g with bx := demBx i s.g.bx } }
def setTm (i : Id) (n sz : Nat) (c : List D) (tm : Nat → Option AV) : Nat → Option AV := fun t => match tm t with
 | some a => some (setRaw i n sz c a)
 | none => none
def setBx (i : Id) (n sz : Nat) (c : List D) (bx : Nat → Nat → Option Box) : Nat → Nat → Option Box := fun d t => match bx d t with
 | some b => some { b with cells := setRaws i n sz c b.cells }
 | none => none
def setSt (i : Id) (n sz : Nat) (c : List D) (s : St) : St := { tm := setTm i n sz c s.tm, fr := s.fr, g := { s.g with bx := setBx i n sz c s.g.bx } }
mutual
 def renA (i nm : Id) : AV → AV
  | .own j sz es => .own (if i = j then nm else j) sz es
  | .raw o k j sz es => .raw o k (if i = j then nm else j) sz es
  | .tup xs => .tup (renAs i nm xs)
  | .d x => .d x
  | .ptr e u o => .ptr e u o
  | .fn f c => .fn f c
  | .yld l => .yld l
  | .old o sz n => .old o sz n
 def renAs (i nm : Id) : List AV → List AV
  | [] => []
  | a :: as => renA i nm a :: renAs i nm as
end
def renTm (i nm : Id) (tm : Nat → Option AV) : Nat → Option AV := fun t => match tm t with
 | some a => some (renA i nm a)
 | none => none
def renBx (i nm : Id) (bx : Nat → Nat → Option Box) : Nat → Nat → Option Box := fun d t => match bx d t with
 | some b => some { b with cells := renAs i nm b.cells }
 | none => none
def renSt (i nm : Id) (s : St) : St := { tm := renTm i nm s.tm, fr := s.fr, g := { s.g with bx := renBx i nm s.g.bx } }
mutual
 def AV.upto (n : Nat) : AV → Bool
  | .d _ => true
  | .own _ _ _ => true
  | .ptr d1 _ _ => Nat.ble d1 n
  | .fn _ caps => AV.uptos n caps
  | .tup xs => AV.uptos n xs
  | .yld _ => false
  | .raw _ _ _ _ _ => true
  | .old _ _ _ => true
 def AV.uptos (n : Nat) : List AV → Bool
  | [] => true
  | a :: as => AV.upto n a && AV.uptos n as
end
mutual
 def AV.within (dp : Nat) (bs : List Nat) : AV → Bool
  | .d _ => true
  | .own _ _ _ => true
  | .ptr d1 t _ => !(Nat.beq d1 dp) || bs.any (Nat.beq t ·)
  | .fn _ caps => AV.withins dp bs caps
  | .tup xs => AV.withins dp bs xs
  | .yld _ => true
  | .raw _ _ _ _ _ => true
  | .old _ _ _ => true
 def AV.withins (dp : Nat) (bs : List Nat) : List AV → Bool
  | [] => true
  | a :: as => AV.within dp bs a && AV.withins dp bs as
end
section
variable (T : Nat → Option TI)
def intOf : AV → Option Int
 | .d (.int _ n) => some n
 | _ => none
def opB (f : Value → Value → Sem Value) (a b : AV) : Option AV :=
 match a, b with
 | .d x, .d y => match x.val, y.val with
  | some u, some v => semV (f u v)
  | _, _ => none
 | _, _ => none
def fillCells (cs : List D) (off : Nat) (vs : List D) : List D := cs.take off ++ vs ++ cs.drop (off + vs.length)
def buildCells (fields : List (Nat × Nat)) (ev : Operand → Option AV) : List (Nat × Operand) → List D → Option (List D)
 | [], cs => some cs
 | (i, x) :: rest, cs => match ev x with
  | some a => match a.data with
   | some v => match fields[i]? with
    | some (off, size) => if Nat.beq v.cells.length size && Nat.ble (off + size) cs.length then buildCells fields ev rest (fillCells cs off v.cells) else none
    | none => none
   | none => none
  | none => none
def sliceD (sz : Nat) (a : AV) (lo hi mx : Option Int) : Option AV :=
 if mx.isSome && hi.isNone then none else
 match a with
 | .d .nils => if lo.getD 0 = 0 ∧ hi.getD 0 = 0 ∧ mx.getD 0 = 0 then some (.d .nils) else none
 | a => match AV.row sz a with
  | some es =>
   let l := lo.getD 0
   let h := hi.getD es.length
   match mx with
   | none => if 0 ≤ l ∧ l ≤ h ∧ h ≤ es.length then some (.d (.sl sz ((es.take h.toNat).drop l.toNat))) else none
   | some m => if 0 ≤ l ∧ l ≤ h ∧ h = m ∧ m ≤ es.length then some (.d (.full sz ((es.take h.toNat).drop l.toNat))) else none
  | none => none
def optI (ev : Operand → Option AV) : Option Operand → Option (Option Int)
 | none => some none
 | some x => match ev x with
  | some a => match intOf a with
   | some n => some (some n)
   | none => none
  | none => none
def opLen (kind : Nat) (a : AV) : Option AV := match kind with
 | 2 => match a.elems with
  | some es => some (.d (.int .i64 es.length))
  | none => none
 | 3 => match a with
  | .d (.str s) => some (.d (.int .i64 s.size))
  | _ => none
 | _ => none
def isLen : Callee → Bool
 | .builtin b => (match b with
  | .len => true
  | .max => true
  | .min => true
  | _ => false)
 | _ => false
def extOp : Callee → Option Bool
 | .builtin b => (match b with
  | .max => some true
  | .min => some false
  | _ => none)
 | _ => none
def extI (mx : Bool) (x y : Int) : Int := match mx with
 | true => if y > x then y else x
 | false => if y < x then y else x
def extA (mx : Bool) (a b : AV) : Option AV := match a, b with
 | .d (.int k x), .d (.int _ y) => some (.d (.int k (extI mx x y)))
 | _, _ => none
def lenA (ev : Operand → Option AV) (c : Call) : Option AV :=
 if isLen c.callee then match extOp c.callee with
  | none => (match c.args.toList, c.argTypes.toList with
   | [x], t :: _ => match T t with
    | some ti => match ev x with
     | some a => opLen ti.kind a
     | none => none
    | none => none
   | _, _ => none)
  | some mx => (match c.args.toList with
   | [x, y] => match ev x with
    | some a => match ev y with
     | some b => extA mx a b
     | none => none
    | none => none
   | _ => none)
 else none
def nilQ (k : Nat) (a : AV) : Option Bool := match k with
 | 2 => match a with
  | .d .nils => some true
  | .d (.emp _) => some false
  | a => match a.elems with
   | some (_ :: _) => some false
   | _ => none
 | 7 => match a with
  | .d .nilp => some true
  | .d (.at _) => some false
  | .ptr _ _ _ => some false
  | _ => none
 | 9 => match a with
  | .d .nilf => some true
  | .d (.fn _ _) => some false
  | .fn _ _ => some false
  | .yld _ => some false
  | _ => none
 | 10 => match a with
  | .d .nilm => some true
  | _ => none
 | 8 => match a with
  | .d .nili => some true
  | .d (.iface _ _) => some false
  | _ => none
 | _ => none
def eqV (t : Nat) (a b : AV) : Option Bool := match T t with
 | none => none
 | some ti => match ti.kind with
  | 5 => match a, b with
   | .d (.bool x), .d (.bool y) => some (x == y)
   | _, _ => none
  | k => match nilQ k a, nilQ k b with
   | some true, some r => some r
   | some r, some true => some r
   | _, _ => none
def eqA (op : BinOp) (t : Nat) (a b : AV) : Option AV := match eqV T t a b with
 | some r => match op with
  | .eql => some (.d (.bool r))
  | .neq => some (.d (.bool (!r)))
  | _ => none
 | none => none
def zeroT (ti : TI) : Option AV := match ti.agg with
 | true => some (.tup [.d (.agg ti.zero), .d (.bool false)])
 | false => match ti.zero with
  | [z] => some (.tup [.d z, .d (.bool false)])
  | _ => none
def opP (ev : Operand → Option AV) : Op → Option AV
 | .move x => ev x
 | .assign x => ev x
 | .pick c a b => match ev c with
  | some (.d (.bool true)) => ev a
  | some (.d (.bool false)) => ev b
  | _ => none
 | .build t parts => match T t with
  | some ti => match ti.kind with
   | 1 => match buildCells ti.fields ev parts.toList ti.zero with
    | some cs => some (.d (.agg cs))
    | none => none
   | _ => none
  | none => none
 | .fieldAddr t x f => match T t with
  | some ti => match ti.kind, ti.fields[f]?, ev x with
   | 1, some (off, _), some (.ptr d u o) => some (.ptr d u (o + off))
   | 1, some (off, _), some (.d (.at cs)) => if Nat.ble off cs.length then some (.d (.at (cs.drop off))) else none
   | _, _, _ => none
  | none => none
 | .indexAddr t x i => match T t with
  | some ti => match ti.kind with
   | 2 => match T ti.elem with
    | some te => match ev x with
     | some a => match AV.refs te.size a with
      | some es => match ev i with
       | some b => match intOf b with
        | some n => if 0 ≤ n then match es[n.toNat]? with
          | some e => some (AV.elem n.toNat e a)
          | none => none
         else none
        | none => none
       | none => none
      | none => none
     | none => none
    | none => none
   | _ => none
  | none => none
 | .index t x i => match T t with
  | some ti => match ti.kind, ev x with
   | 3, some (.d (.str s)) => match ev i with
    | some b => match intOf b with
     | some n => match (if 0 ≤ n then s[n.toNat]? else none) with
      | some c => some (.d (.int .u8 c.toNat))
      | none => none
     | none => none
    | none => none
   | _, _ => none
  | none => none
 | .slice t x lo hi mx => match T t with
  | some ti => match ti.kind, ev x, optI ev lo, optI ev hi, optI ev mx with
   | 2, some a, some l, some h, some m => match T ti.elem with
    | some te => sliceD te.size a l h m
    | none => none
   | 3, some (.d (.str s)), some l, some h, some none =>
    if 0 ≤ l.getD 0 ∧ l.getD 0 ≤ h.getD s.size ∧ h.getD s.size ≤ s.size then some (.d (.str (s.extract (l.getD 0).toNat (h.getD s.size).toNat))) else none
   | _, _, _, _, _ => none
  | none => none
 | .extract x i => match ev x with
  | some (.tup xs) => xs[i]?
  | _ => none
 | .nilCheck x => match ev x with
  | some (.ptr d u o) => some (.ptr d u o)
  | some (.d (.at cs)) => some (.d (.at cs))
  | _ => none
 | .binOp op t x y _ => match ev x, ev y with
  | some a, some b => match opB (binOp op t) a b with
   | some v => some v
   | none => eqA T op t a b
  | _, _ => none
 | .unOp op _ x => match ev x with
  | some (.d a) => match a.val with
   | some u => semV (Op.unary op u)
   | none => none
  | _ => none
 | .makeInterface t x => match T t with
  | some ti => match ev x with
   | some (.d (.agg cs)) => if Nat.beq ti.kind 1 then some (.d (.iface t (.agg cs))) else none
   | some (.d (.int k n)) => if Nat.beq ti.kind 4 then some (.d (.iface t (.int k n))) else none
   | _ => none
  | none => none
 | .typeAssert x _ t ok => match T t with
  | some ti => match ok, ev x with
   | true, some (.d (.iface u v)) => if Nat.beq ti.kind 1 || Nat.beq ti.kind 4 then (if Nat.beq u t then some (.tup [.d v, .d (.bool true)]) else zeroT ti) else none
   | true, some (.d .nili) => if Nat.beq ti.kind 1 || Nat.beq ti.kind 4 then zeroT ti else none
   | _, _ => none
  | none => none
 | .convert s t x => match T s, T t with
  | some si, some ti => match si.int, ti.int, ev x with
   | some _, some k, some (.d (.int _ n)) => some (.d (.int k (k.wrap n)))
   | _, _, _ => none
  | _, _ => none
 | .call c => lenA T ev c
 | _ => none
end
section
variable (T : Nat → Option TI)
def loadA (bx : Nat → Nat → Option Box) (t : Nat) (p : AV) : Option AV :=
 match T t with
 | none => none
 | some ti => match p with
  | .ptr d u off => match bx d u with
   | none => none
   | some b => match ti.agg with
    | true => match AV.datas ((b.cells.drop off).take ti.size) with
     | some cs => if Nat.beq cs.length ti.size then some (.d (.agg cs)) else none
     | none => none
    | false => b.cells[off]?
  | .d (.at cs) => match ti.agg with
   | true => if Nat.ble ti.size cs.length then some (.d (.agg (cs.take ti.size))) else none
   | false => match cs[0]? with
    | some x => some (.d x)
    | none => none
  | _ => none
def boxCells (ti : TI) (nm : Id) (a : AV) : Option (List AV) :=
 match ti.agg with
 | true => match a.data with
  | some (.agg cs) => if Nat.beq cs.length ti.size then some (cs.map .d) else none
  | _ => none
 | false => match a with
  | .own _ sz es => some [.own nm sz es]
  | .raw o k _ sz es => (match o with
   | none => some [.raw none k nm sz es]
   | some _ => none)
  | .old _ _ _ => none
  | .tup _ => none
  | .d (.agg _) => none
  | a => some [a]
def letIn (nm : Id) (a : AV) (s : St) : St := match a with
 | .own i _ _ => demSt nm (demSt i s)
 | .raw _ _ i _ _ => renSt i nm (demSt nm s)
 | _ => demSt nm s
def allocA (dst : Nat) (t : Nat) (s : St) : Option St :=
 match T t, s.g.bx s.g.dp dst with
 | some ti, none => some { tm := upd s.tm dst (some (.ptr s.g.dp dst 0)), fr := s.fr, g := { s.g with bx := fun d u => if Nat.beq d s.g.dp && Nat.beq u dst then some { cells := ti.zero.map .d, frz := false, ty := ti.mark } else s.g.bx d u } }
 | _, _ => none
def boxA (dst : Nat) (t : Nat) (x : Operand) (s : St) : Option St :=
 match T t, s.g.bx s.g.dp dst, ev s.tm x with
 | some ti, none, some a =>
  match boxCells ti (.box s.g.dp dst 0) a with
  | some cs =>
   let s1 := letIn (.box s.g.dp dst 0) a s
   some { tm := upd s1.tm dst (some (.ptr s.g.dp dst 0)), fr := s1.fr, g := { s1.g with bx := fun d u => if Nat.beq d s.g.dp && Nat.beq u dst then some { cells := cs, frz := false, ty := (0, 0) } else s1.g.bx d u } }
  | none => none
 | _, _, _ => none
def setCells (cs : List AV) (off : Nat) (vs : List AV) : List AV := cs.take off ++ vs ++ cs.drop (off + vs.length)
def rowCells (ti : TI) (a : AV) : Option (List D) :=
 match ti.agg with
 | true => match a.data with
  | some (.agg cs) => if Nat.beq cs.length ti.size then some cs else none
  | _ => none
 | false => match a.data with
  | some (.agg _) => none
  | some x => some [x]
  | none => none
def storeR (ti : TI) (n k : Nat) (i : Id) (sz : Nat) (es : List (List D)) (a : AV) (s : St) : Option St :=
 match rowCells ti a with
 | some cs => if Nat.beq sz ti.size && Nat.ble 1 sz && (Nat.ble k n && Nat.blt n es.length) then some (setSt i n sz cs s) else none
 | none => none
def storeB (ti : TI) (d u off : Nat) (a : AV) (s : St) : Option St :=
 match boxCells ti (.box d u off) a with
 | some cs =>
  let s1 := letIn (.box d u off) a s
  match s1.g.bx d u with
  | some b =>
   if !b.lock && (Nat.beq d s.g.dp || AV.uptos d cs) && Nat.ble (off + cs.length) b.cells.length then
    some { s1 with g := { s1.g with bx := fun d' u' => if Nat.beq d' d && Nat.beq u' u then some { b with cells := setCells b.cells off cs } else s1.g.bx d' u' } }
   else none
  | none => none
 | none => none
def storeA (t : Nat) (p x : Operand) (s : St) : Option St :=
 match T t, ev s.tm p, ev s.tm x with
 | some ti, some (.ptr d u off), some a => storeB ti d u off a s
 | some ti, some (.raw (some n) k i sz es), some a => storeR ti n k i sz es a s
 | _, _, _ => none
def most : Nat := 1099511627776
def setFr (fr : Nat → Bool) (d : Nat) : Nat → Bool := fun t => Nat.beq t d || fr t
def rowAV (k : Option Nat) (i : Id) (sz : Nat) (es : List (List D)) : AV := match k with
 | none => .own i sz es
 | some k => .raw none k i sz es
def putOwn (k : Option Nat) (dst : Nat) (sz : Nat) (es : List (List D)) (s : St) : Option St :=
 if s.fr dst then none else some { tm := upd s.tm dst (some (rowAV k (.tmp s.g.dp dst 0) sz es)), fr := setFr s.fr dst, g := s.g }
def rawK (rw : Bool) (n : Nat) : Option Nat := match rw with
 | true => some n
 | false => none
def rawC (rw : Bool) (n m : Nat) : Bool := match rw with
 | true => Nat.beq n 0 || Nat.blt 0 m
 | false => true
def appendA (rw : Bool) (dst : Nat) (t t2 : TI) (x y : Operand) (s : St) : Option St :=
 match t.kind, T t.elem with
  | 2, some te => match ev s.tm x, ev s.tm y with
   | some a, some b => match AV.rowS t2 te b with
    | some ys => match a with
     | .own i sz es => if Nat.beq sz te.size && Nat.ble ((es.length + ys.length) * (te.bytes + 1)) most && Nat.ble 1 te.size && rawC rw es.length ys.length then putOwn (rawK rw es.length) dst te.size (es ++ ys) (demSt i s) else none
     | .d .nils => if Nat.ble (ys.length * (te.bytes + 1)) most && Nat.ble 1 te.size then putOwn (rawK rw 0) dst te.size ys s else none
     | .d (.full sz es) => if Nat.beq sz te.size && Nat.ble ((es.length + ys.length) * (te.bytes + 1)) most && Nat.ble 1 te.size && rawC rw es.length ys.length then putOwn (rawK rw es.length) dst te.size (es ++ ys) s else none
     | _ => none
    | none => none
   | _, _ => none
  | _, _ => none
def partCells (sz : Nat) (ev : Operand → Option AV) : List (Nat × Operand) → List (List D) → Option (List (List D))
 | [], es => some es
 | (i, x) :: rest, es => match ev x with
  | some a => match a.data with
   | some v => if Nat.beq v.cells.length sz && Nat.blt i es.length then partCells sz ev rest (es.set i v.cells) else none
   | none => none
  | none => none
def buildSliceA (dst : Nat) (t n : Nat) (parts : List (Nat × Operand)) (s : St) : Option St :=
 match T t with
 | none => none
 | some ti => match ti.kind, T ti.elem with
  | 2, some te => match partCells te.size (ev s.tm) parts (List.replicate n te.zero) with
   | some es => if Nat.ble (n * te.size) 16777216 && Nat.ble 1 te.size then putOwn none dst te.size (es.map (nrmC te.sls)) s else none
   | none => none
  | _, _ => none
end
def thaw (bx : Nat → Nat → Option Box) : AV → AV
 | .ptr d t off => match bx d t with
  | some b => match b.frz, AV.datas b.cells with
   | true, some cs => if Nat.ble off cs.length then .d (.at (cs.drop off)) else .ptr d t off
   | _, _ => .ptr d t off
  | none => .ptr d t off
 | a => a
def freezeBx (bx : Nat → Nat → Option Box) : List AV → (Nat → Nat → Option Box)
 | [] => bx
 | .ptr d t _ :: rest => freezeBx (fun d' t' => if Nat.beq d' d && Nat.beq t' t then (match bx d t with
   | some b => some { b with frz := true }
   | none => none) else bx d' t') rest
 | _ :: rest => freezeBx bx rest
def ownData : AV → AV
 | .own _ sz es => .d (.sl sz es)
 | .raw o _ _ sz es => .old o sz es.length
 | a => a
def noTup : AV → Bool
 | .tup _ => false
 | _ => true
def mkFn (f : Fn) (caps : List AV) : AV := match AV.datas caps with
 | some ds => .d (.fn f ds)
 | none => .fn f caps
def makeFuncA (h : Hint) (dst : Nat) (f : Fn) (caps : List Operand) (s : St) : Option St :=
 match evs s.tm caps with
 | some as =>
  if as.all noTup then
   let bx := if h.freeze.any (Nat.beq dst ·) then freezeBx s.g.bx as else s.g.bx
   some { tm := upd s.tm dst (some (mkFn f (as.map fun a => thaw bx (ownData a)))), fr := s.fr, g := { s.g with bx := bx } }
  else none
 | none => none
def putV (nt : Nat) (dst : Option Nat) (v : AV) (s : St) : Option St := match dst with
 | some d => if Nat.blt d nt then some { s with tm := upd s.tm d (some v) } else none
 | none => some s
def isAppend : Callee → Bool
 | .builtin b => (match b with
  | .append => true
  | _ => false)
 | _ => false
def callB (T : Nat → Option TI) (h : Hint) (d : Nat) (c : Call) (s : St) : Option St :=
 if isAppend c.callee then match c.args.toList, c.argTypes.toList with
  | [x, y], [t, t'] => match T t, T t' with
   | some ti, some t2 => if Nat.beq t t' || Nat.beq t2.kind 3 then appendA T (h.raw.any (Nat.beq d ·)) d ti t2 x y s else none
   | _, _ => none
  | _, _ => none
 else match lenA T (ev s.tm) c with
  | some v => some { s with tm := upd s.tm d (some v) }
  | none => none
def stepOp (T : Nat → Option TI) (h : Hint) (nt : Nat) (o : Oper) (s : St) : Option St :=
 match o.dst with
 | none => match o.op with
  | .store t p x => storeA T t p x s
  | _ => none
 | some d => if Nat.blt d nt then match o.op with
  | .alloc t => allocA T d t s
  | .box t x => boxA T d t x s
  | .load t p => match ev s.tm p with
   | some a => match loadA T s.g.bx t a with
    | some v => some { s with tm := upd s.tm d (some v) }
    | none => none
   | none => none
  | .buildSlice t n parts => buildSliceA T d t n parts.toList s
  | .call c => callB T h d c s
  | .makeFunc f first caps => if first.isEmpty then makeFuncA h d f caps.toList s else none
  | op => match opP T (ev s.tm) op with
   | some v => some { s with tm := upd s.tm d (some v) }
   | none => none
  else none
def renAV (dp dst j : Nat) : AV → AV
 | .own _ sz es => .own (.tmp dp dst j) sz es
 | .raw o _ _ sz es => .old o sz es.length
 | a => a
def renAVs (dp dst : Nat) : Nat → List AV → List AV
 | _, [] => []
 | j, a :: as => renAV dp dst j a :: renAVs dp dst (j + 1) as
def putRes (nt : Nat) (dst : Option Nat) (rs : List AV) (s : St) : Option St :=
  match dst with
  | none => some s
  | some d =>
    if s.fr d then none else
    if Nat.blt d nt then
      some { tm := upd s.tm d (some (match renAVs s.g.dp d 0 rs with
        | [a] => a
        | as => .tup as)), fr := setFr s.fr d, g := s.g }
    else none
mutual
 def demBoxes : AV → AV
  | .own (.box _ _ _) sz es => .d (.sl sz es)
  | .raw o _ (.box _ _ _) sz es => .old o sz es.length
  | .tup xs => .tup (demBoxess xs)
  | a => a
 def demBoxess : List AV → List AV
  | [] => []
  | a :: as => demBoxes a :: demBoxess as
end
def guardV (ops : Array Oper) (tm : Nat → Option AV) (g : Nat) : Option (Option Bool) :=
 match ops[g]? with
 | some o => match o.dst with
  | some t => match tm t with
   | some (.d (.bool b)) => some (some b)
   | some (.tup []) => some none
   | _ => none
  | none => none
 | none => none
mutual
 def demAll : AV → AV
  | .own _ sz es => .d (.sl sz es)
  | .raw o _ _ sz es => .old o sz es.length
  | .tup xs => .tup (demAlls xs)
  | .d x => .d x
  | .ptr e u o => .ptr e u o
  | .fn f c => .fn f c
  | .yld l => .yld l
  | .old o sz n => .old o sz n
 def demAlls : List AV → List AV
  | [] => []
  | a :: as => demAll a :: demAlls as
end
def mapTm (f : AV → AV) (tm : Nat → Option AV) : Nat → Option AV := fun t => match tm t with
 | some a => some (f a)
 | none => none
inductive Cl where
 | pure | load | alloc | build | app | call | store
 deriving DecidableEq
def clsOp : Op → Cl
 | .load _ _ => .load
 | .alloc _ => .alloc
 | .buildSlice _ _ _ => .build
 | .call c => match c.callee with
  | .value _ => .call
  | _ => if isLen c.callee then .pure else if isAppend c.callee then .app else .store
 | .move _ | .assign _ | .pick .. | .build .. | .fieldAddr .. | .indexAddr .. | .index .. | .slice .. | .extract .. | .nilCheck _ | .binOp .. | .unOp .. | .convert .. => .pure
 | _ => .store
def swaps : Cl → Cl → Bool
 | .pure, _ | _, .pure => true
 | .store, _ | _, .store => false
 | .load, _ | _, .load => true
 | .alloc, .build | .build, .alloc | .alloc, .app | .app, .alloc | .alloc, .call | .call, .alloc => true
 | .build, .build | .build, .app | .app, .build => true
 | _, _ => false
def force {α : Type} (n : Nat) (f : Nat → α) : α := match n with
 | 0 => f 0
 | k + 1 => f (k + 1)
def maskE (done : List Nat) : List Edge → Nat
 | [] => 0
 | e :: es => if Region.binds .any e then maskE done es ||| (2 ^ e.on ||| done.getD e.on 0) else maskE done es
def maskGo {α : Type} : List Oper → List Nat → (List Nat → α) → α
 | [], done, f => f done
 | o :: rest, done, f => force (maskE done o.after.toList) fun n => maskGo rest (done ++ [n]) f
def isPure : Cl → Bool
 | .pure => true
 | _ => false
def dstOk (o : Oper) : Bool := match clsOp o.op with
 | .store | .call => true
 | _ => o.dst.isSome
def edgesOk : List Oper → Nat → Bool
 | [], _ => true
 | o :: rest, i => (o.after.toList.all fun e => !Region.binds .any e || Nat.blt e.on i) && edgesOk rest (i + 1)
def drawRow (ops : Array Oper) (o : Oper) (m : Nat) : List Oper → Nat → Bool
 | [], _ => true
 | p :: rest, i => (m.testBit i || (swaps (clsOp p.op) (clsOp o.op) && Oper.apart ops p o && dstOk p && dstOk o)) && drawRow ops o m rest (i + 1)
def drawGo (ops : Array Oper) : List Oper → List Oper → List Nat → Bool
 | [], _, _ => true
 | o :: rest, done, ms => drawRow ops o (ms.getD done.length 0) done 0 && drawGo ops rest (done ++ [o]) ms
def isLoad : Cl → Bool
 | .load => true
 | _ => false
def effRow (keep : Bool) (eff : Nat → Bool) (ms : List Nat) (k : Nat) : List Oper → Nat → Bool
 | [], _ => true
 | p :: rest, i => (Nat.beq i k || (ms.getD k 0).testBit i || (ms.getD i 0).testBit k || isPure (clsOp p.op) || (keep && Nat.blt i k && eff i && isLoad (clsOp p.op))) && effRow keep eff ms k rest (i + 1)
def isLoadAt (ops : Array Oper) (k : Nat) : Bool := match ops[k]? with
 | some o => isLoad (clsOp o.op)
 | none => false
def goCall : Op → Option (Operand × List Operand)
 | .call c => match c.callee with
  | .value f => some (f, c.args.toList)
  | _ => none
 | _ => none
def isCallAt (ops : Array Oper) (k : Nat) : Bool := match ops[k]? with
 | some o => (goCall o.op).isSome
 | none => false
def regionOk (keep : Bool) (eff : Nat → Bool) (ops : Array Oper) : Bool :=
 edgesOk ops.toList 0 && maskGo ops.toList [] fun ms => drawGo ops ops.toList [] ms && (List.range ops.size).all fun k => !eff k || isLoadAt ops k || effRow (keep && isCallAt ops k) eff ms k ops.toList 0
def befB : List Nat → Nat → Nat → Bool
 | [], _, _ => false
 | x :: xs, j, i => if Nat.beq x j then xs.any (Nat.beq i ·) else if Nat.beq x i then false else befB xs j i
def confB (cf : List (Nat × Nat)) (j i : Nat) : Bool := cf.any fun p => (Nat.beq p.1 j && Nat.beq p.2 i) || (Nat.beq p.1 i && Nat.beq p.2 j)
def covB (ms : List Nat) (cf : List (Nat × Nat)) : Nat → List Nat → List (List Nat) → Bool
 | 0, S, _ => S.isEmpty
 | n + 1, S, os => S.all fun i => (S.any fun j => (ms.getD i 0).testBit j) ||
   (!(os.filter fun w => S.all fun j => !confB cf j i || befB w i j).isEmpty &&
    covB ms cf n (S.filter fun j => !Nat.beq j i) (os.filter fun w => S.all fun j => !confB cf j i || befB w i j))
def listOk (ops : Array Oper) (ms : List Nat) (cf : List (Nat × Nat)) : List Nat → List Nat → Bool
 | [], _ => true
 | i :: rest, pre => (match ops[i]? with
   | some o => !(pre.any (Nat.beq i ·)) && (o.after.toList.all fun e => !Region.binds .any e || pre.any (Nat.beq e.on ·)) &&
    (pre.all fun j => (ms.getD i 0).testBit j || confB cf j i || (match ops[j]? with
     | some p => swaps (clsOp p.op) (clsOp o.op) && Oper.apart ops p o && dstOk p && dstOk o
     | none => false))
   | none => false) && listOk ops ms cf rest (pre ++ [i])
def ordOk (cf : List (Nat × Nat)) (os : List (List Nat)) (ops : Array Oper) : Bool :=
 edgesOk ops.toList 0 && maskGo ops.toList [] fun ms =>
  !os.isEmpty && (os.all fun w => listOk ops ms cf w [] && (List.range ops.size).all fun i => w.any (Nat.beq i ·)) &&
  covB ms cf ops.size ((List.range ops.size).filter fun i => (List.range ops.size).any fun j => confB cf j i) os
def masksUpto : List Oper → List Nat → List Nat
 | [], done => done
 | o :: rest, done => masksUpto rest (done ++ [maskE done o.after.toList])
def pairB (keep : Bool) (ops : Array Oper) (p o : Oper) (e1 e2 : Bool) : Bool :=
 swaps (clsOp p.op) (clsOp o.op) && Oper.apart ops p o && dstOk p && dstOk o && (!e1 || isPure (clsOp o.op) || isLoad (clsOp p.op)) && (!e2 || isPure (clsOp p.op) || isLoad (clsOp o.op) || (keep && (goCall o.op).isSome && e1 && isLoad (clsOp p.op)))
def pairsB (keep : Bool) (eff : Nat → Bool) (ops : Array Oper) (ms : List Nat) (i : Nat) : List Nat → Bool
 | [] => true
 | j :: js => ((ms.getD i 0).testBit j || (match ops[j]?, ops[i]? with
  | some p, some o => pairB keep ops p o (eff j) (eff i)
  | _, _ => false)) && pairsB keep eff ops ms i js
def lineB (keep : Bool) (eff : Nat → Bool) (ops : Array Oper) (ms : List Nat) : List Nat → List Nat → Bool
 | _, [] => true
 | seen, i :: rest => (match ops[i]? with
  | some o => o.after.toList.all fun x => !Region.binds .any x || seen.any (Nat.beq x.on)
  | none => false) && pairsB keep eff ops ms i seen && lineB keep eff ops ms (seen ++ [i]) rest
def panOk (keep : Bool) (eff : Nat → Bool) (ops : Array Oper) (e : Nat) (is ds : List Nat) : Bool :=
 let ms := masksUpto ops.toList []
 Nat.beq (is ++ e :: ds).length ops.size && (List.range ops.size).all (fun i => (is ++ e :: ds).any (Nat.beq i)) && (is ++ e :: ds).all (fun i => Nat.blt i ops.size) && lineB keep eff ops ms [] (is ++ e :: ds) &&
  is.all (fun j => match ops[j]? with
   | some p => isPure (clsOp p.op) || isLoad (clsOp p.op)
   | none => false) && eff e && isCallAt ops e && ds.all (fun d => (ms.getD d 0).testBit e)
def codeOk (h : Hint) : Code → Bool
 | .region id ops draw => !draw || (match h.ord id with
  | none => (match h.pan id with
   | none => regionOk h.keep (h.eff id) ops
   | some (e, is, ds) => panOk h.keep (h.eff id) ops e is ds)
  | some (cf, os) => ordOk cf os ops)
 | .seq a b => codeOk h a && codeOk h b
 | .cond _ a b => codeOk h a && codeOk h b
 | .block _ c => codeOk h c
 | .loop c => codeOk h c
 | .scope c => codeOk h c
 | .rangeFunc _ _ a b => !h.flat && codeOk h a && codeOk h b
 | _ => true
def look {α : Type} : List (Nat × Option α) → Nat → Option α
 | [], _ => none
 | (u, v) :: r, t => if Nat.beq t u then v else look r t
def firstRegion : Code → Nat
 | .region id _ _ => id
 | .seq a _ => firstRegion a
 | .block _ b => firstRegion b
 | .loop b => firstRegion b
 | .scope b => firstRegion b
 | _ => 0
def canonTm : List (Nat × Option Nat) → St → St
 | [], s => s
 | (_, none) :: rest, s => canonTm rest s
 | (t, some sz) :: rest, s => match s.tm t with
  | some (.own i z es) =>
   let s1 := demSt (.tmp s.g.dp t 0) (demSt i s)
   canonTm rest { s1 with tm := upd s1.tm t (some (.own (.tmp s.g.dp t 0) z es)) }
  | some (.d .nils) =>
   let s1 := demSt (.tmp s.g.dp t 0) s
   canonTm rest { s1 with tm := upd s1.tm t (some (.own (.tmp s.g.dp t 0) sz [])) }
  | _ => canonTm rest s
def canonBox1 (t : Nat) : List (Nat × Nat) → St → St
 | [], s => s
 | (j, sz) :: rest, s => match s.g.bx s.g.dp t with
  | some b => match b.lock, b.cells[j]? with
   | false, some (.d .nils) =>
    let s1 := demSt (.box s.g.dp t j) s
    match s1.g.bx s.g.dp t with
    | some b1 => canonBox1 t rest { s1 with g := { s1.g with bx := fun d' u' => if Nat.beq d' s.g.dp && Nat.beq u' t then some { b1 with cells := setCells b1.cells j [.own (.box s.g.dp t j) sz []] } else s1.g.bx d' u' } }
    | none => canonBox1 t rest s1
   | _, _ => canonBox1 t rest s
  | none => canonBox1 t rest s
def canonBox : List (Nat × List (Nat × Nat)) → St → St
 | [], s => s
 | (t, fs) :: rest, s => canonBox rest (canonBox1 t fs s)
def keptTm (tm : Nat → Option AV) (dp : Nat) (bs : List Nat) : List (Nat × Option Nat) → Bool
 | [] => true
 | (t, _) :: rest => (match tm t with
  | some a => AV.within dp bs a
  | none => true) && keptTm tm dp bs rest
def keptBx (bx : Nat → Nat → Option Box) (dp : Nat) (bs : List Nat) : List (Nat × List (Nat × Nat)) → Bool
 | [] => true
 | (t, _) :: rest => (match bx dp t with
  | some b => AV.withins dp bs b.cells
  | none => true) && keptBx bx dp bs rest
def keepOwn (dp t : Nat) : AV → AV
 | .own (.tmp d u j) z es => if Nat.beq d dp && Nat.beq u t then .own (.tmp d u j) z es else .d (.sl z es)
 | a => demAll a
def headSt (h : Hint) (id : Nat) (s : St) : Option St := match h.loops id with
  | none => some s
  | some (kt, kb) =>
    let s := canonBox kb (canonTm kt s)
    let bs := kb.map (·.1)
    if keptTm s.tm s.g.dp bs kt && keptBx s.g.bx s.g.dp bs kb then
      some { tm := look (kt.map fun p => (p.1, match p.2 with
               | some _ => match s.tm p.1 with
                 | some a => some (keepOwn s.g.dp p.1 a)
                 | none => none
               | none => match s.tm p.1 with
                 | some a => some (demAll a)
                 | none => none)),
             fr := fun t => kt.any fun p => Nat.beq p.1 t && p.2.isSome,
             g := { s.g with bx := fun d t => if Nat.beq d s.g.dp then look (kb.map fun p => (p.1, s.g.bx s.g.dp p.1)) t else s.g.bx d t } }
    else none
def cook1 (p : Nat × Option Nat) (s : St) : St := match p with
 | (t, none) => match s.tm t with
  | some (.raw none _ i sz es) =>
   let s1 := demSt i s
   {s1 with tm := upd s1.tm t (some (.own i sz es)) }
  | _ => s
 | (t, some off) => match s.tm t with
  | some (.ptr d u o) => match s.g.bx d u with
   | some b => match b.lock, b.cells[o + off]? with
    | false, some (.raw none _ i sz es) =>
     let s1 := demSt i s
     match s1.g.bx d u with
     | some b1 => { s1 with g := { s1.g with bx := fun d' u' => if Nat.beq d' d && Nat.beq u' u then some { b1 with cells := setCells b1.cells (o + off) [.own i sz es] } else s1.g.bx d' u' } }
     | none => s1
    | _, _ => s
   | none => s
  | _ => s
def cookAll : List (Nat × Option Nat) → St → St
 | [], s => s
 | p :: ps, s => cookAll ps (cook1 p s)
def cooked {R : Type} (k : Ex → St → Option R) (ps : List (Nat × Option Nat)) : Ex → St → Option R := fun e s => match e with
 | .normal => k .normal (cookAll ps s)
 | e => k e s
mutual
 def demF (f : Nat → Bool) : AV → AV
  | .own (.box d t j) sz es => match f d with
   | true => .d (.sl sz es)
   | false => .own (.box d t j) sz es
  | .raw o k (.box d t j) sz es => match f d with
   | true => .old o sz es.length
   | false => .raw o k (.box d t j) sz es
  | .tup xs => .tup (demFs f xs)
  | .d x => .d x
  | .ptr e u o => .ptr e u o
  | .fn f c => .fn f c
  | .yld l => .yld l
  | .old o sz n => .old o sz n
  | .own (.tmp e u j) sz es => .own (.tmp e u j) sz es
  | .own (.res j) sz es => .own (.res j) sz es
  | .raw o k (.tmp e u j) sz es => .raw o k (.tmp e u j) sz es
  | .raw o k (.res j) sz es => .raw o k (.res j) sz es
 def demFs (f : Nat → Bool) : List AV → List AV
  | [] => []
  | a :: as => demF f a :: demFs f as
end
def atD (dp : Nat) : Nat → Bool := fun d => Nat.beq d dp
def offD (dp : Nat) : Nat → Bool := fun d => !(Nat.beq d dp)
def mapBx (φ : List AV → List AV) (o : Option Box) : Option Box := match o with
 | some b => some { b with cells := φ b.cells }
 | none => none
def kG (g : G) : G := { bx := fun d t => match Nat.beq d g.dp with
    | true => none
    | false => mapBx (demFs (atD g.dp)) (g.bx d t), dp := g.dp - 1, lp := g.lp }
def kunG (g g' : G) : G := { bx := fun d t => match Nat.beq d g.dp with
    | true => mapBx (demFs (offD g.dp)) (g.bx d t)
    | false => mapBx (demFs (atD g.dp)) (g'.bx d t), dp := g.dp, lp := g'.lp }
inductive Cal where
 | fn (f : Fn)
 | yld (l : Nat)
structure Cx (R : Type) where
 T : Nat → Option TI
 fuel : Nat
 C : Fn → List D → Option Out
 E : Cal → List AV → G → (Out → G → Option R) → Option R
 hint : Hint
 fid : FuncId
 nt : Nat
section
variable {R : Type} (cx : Cx R)
def loopN (h : Hint) (id : Nat) (body : St → (Ex → St → Option R) → Option R) : Nat → St → (Ex → St → Option R) → Option R
 | 0, _, _ => none
 | m + 1, s, k => match headSt h id s with
  | none => none
  | some s' => body s' fun e s'' => match e with
   | .normal => loopN h id body m s'' k
   | e => k e s''
def behind (dst : Option Nat) (s : St) (k : Ex → St → Option R) : Out → G → Option R
 | .ret rs, g => match putRes cx.nt dst rs { tm := mapTm demBoxes s.tm, fr := s.fr, g } with
  | some s => k .normal s
  | none => none
 | .pan x, g => k (.panic x) { tm := mapTm demBoxes s.tm, fr := s.fr, g }
def behindF (φ : AV → AV) (dst : Option Nat) (s : St) (k : Ex → St → Option R) : Out → G → Option R
 | .ret rs, g => match putRes cx.nt dst rs { tm := mapTm φ s.tm, fr := s.fr, g } with
  | some s => k .normal s
  | none => none
 | .pan x, g => k (.panic x) { tm := mapTm φ s.tm, fr := s.fr, g }
def callE (dst : Option Nat) (fn : Fn) (as : List AV) (s : St) (k : Ex → St → Option R) : Option R := match cx.hint.keep with
 | false => cx.E (.fn fn) as s.g (behind cx dst s k)
 | true => match Nat.ble 1 s.g.dp && AV.uptos (s.g.dp - 1) as && s.g.lp.all (fun r => Nat.blt r.dp s.g.dp) with
  | true => cx.E (.fn fn) as (kG s.g) fun out g' => behindF cx (demF (offD s.g.dp)) dst s k out (kunG s.g g')
  | false => none
def callA (eff : Bool) (dst : Option Nat) (f : AV) (args : List AV) (s : St) (k : Ex → St → Option R) : Option R :=
 match f with
 | .d (.fn fn caps) => match AV.datas args with
  | some ds => match cx.C fn (ds ++ caps) with
   | some (.ret rs) => match putRes cx.nt dst rs s with
    | some s' => k .normal s'
    | none => none
   | some (.pan x) => k (.panic x) s
   | none => none
  | none => if eff then callE cx dst fn (args.map ownData ++ caps.map .d) s k else none
 | .fn fn caps => if eff then callE cx dst fn (args.map ownData ++ caps) s k else none
 | .yld l => if eff && !cx.hint.keep then cx.E (.yld l) (args.map ownData) s.g (behind cx dst s k) else none
 | _ => none
def runOp (eff : Bool) (o : Oper) (s : St) (k : Ex → St → Option R) : Option R :=
 match goCall o.op with
 | some (f, args) => match ev s.tm f, evs s.tm args with
  | some a, some as => if as.all noTup then callA cx eff o.dst a as s k else none
  | _, _ => none
 | none => match stepOp cx.T cx.hint cx.nt o s with
  | some s' => k .normal s'
  | none => none
def runG (eff : Bool) (ops : Array Oper) (o : Oper) (s : St) (k : Ex → St → Option R) : Option R :=
 match o.guard with
 | none => runOp cx eff o s k
 | some (g, want) => match guardV ops s.tm g with
  | some (some b) => if b == want then runOp cx eff o s k
    else match putV cx.nt o.dst (.tup []) s with
     | some s' => k .normal s'
     | none => none
  | some none => match putV cx.nt o.dst (.tup []) s with
     | some s' => k .normal s'
     | none => none
  | none => none
def runOps (eff : Nat → Bool) (ops : Array Oper) : List Oper → Nat → St → (Ex → St → Option R) → Option R
 | [], _, s, k => k .normal s
 | o :: rest, i, s, k => runG cx (eff i) ops o s fun e s' => match e with
  | .normal => runOps eff ops rest (i + 1) s' k
  | e => k e s'
def ownLd (o : Oper) (s : St) : Bool := match o.op with
 | .load _ p => match ev s.tm p with
  | some (.ptr d _ _) => Nat.beq d s.g.dp
  | _ => false
 | _ => true
def runC (eff : Bool) (ops : Array Oper) (o : Oper) (s : St) (k : Ex → St → Option R) : Option R := match eff && !ownLd o s with
 | true => none
 | false => runG cx eff ops o s k
def runOpsC (eff : Nat → Bool) (ops : Array Oper) : List Oper → Nat → St → (Ex → St → Option R) → Option R
 | [], _, s, k => k .normal s
 | o :: rest, i, s, k => runC cx (eff i) ops o s fun e s' => match e with
  | .normal => runOpsC eff ops rest (i + 1) s' k
  | e => k e s'
def runN (eff : Nat → Bool) (ops : Array Oper) : List Nat → St → (St → Option R) → Option R
 | [], s, k => k s
 | i :: rest, s, k => match ops[i]? with
  | some o => runC cx (eff i) ops o s fun e s' => match e with
   | .normal => runN eff ops rest s' k
   | _ => none
  | none => none
def bareSt (g : G) : St := { tm := fun _ => none, fr := fun _ => false, g }
def runPan (eff : Nat → Bool) (ops : Array Oper) (e : Nat) (is ds : List Nat) (s : St) (k : Ex → St → Option R) : Option R := runN cx eff ops is s fun s1 => match ops[e]? with
 | some o => runC cx (eff e) ops o s1 fun ex s2 => match ex with
  | .normal => runN cx eff ops ds s2 (k .normal)
  | .panic x => k (.panic x) (bareSt s2.g)
  | _ => none
 | none => none
def panicOp (o : Oper) : Option Operand := match o.guard, o.op with
 | none, .panic x => some x
 | _, _ => none
def runOpsP (ops : Array Oper) : List Oper → Nat → St → (Ex → St → Option R) → Option R
 | [], _, s, k => k .normal s
 | o :: rest, i, s, k => match panicOp o with
  | some x => match ev s.tm x with
   | some (.d (.iface t v)) => k (.panic (.iface t v)) s
   | _ => none
  | none => runG cx true ops o s fun e s' => match e with
   | .normal => runOpsP ops rest (i + 1) s' k
   | e => k e s'
def runO (ops : Array Oper) : List Nat → St → (St → Option R) → Option R
 | [], s, k => k s
 | i :: rest, s, k => match ops[i]? with
  | some o => runG cx false ops o s fun e s' => match e with
   | .normal => runO ops rest s' k
   | _ => none
  | none => none
def runOs [Same R] (ops : Array Oper) : List (List Nat) → St → (St → Option R) → Option R
 | [], _, _ => none
 | w :: ws, s, k => match ws with
  | [] => runO cx ops w s k
  | _ :: _ => both (runO cx ops w s k) (runOs ops ws s k)
def enterRange (dst : Nat → Option AV) (s : St) (params : List Nat) (assign body : Code) : G :=
 {s.g with lp := s.g.lp ++ [{ fid := cx.fid, dp := s.g.dp, nt := cx.nt, hint := cx.hint, tm := dst, params, assign, body, pend := none }] }
def exec [Same R] : Code → St → (Ex → St → Option R) → Option R
 | .skip, s, k => k .normal s
 | .label _, s, k => k .normal s
 | .exit id, s, k => k (.exit id) s
 | .goto l, s, k => k (.goto l) s
 | .ret, s, k => k .ret s
 | .seq a b, s, k => exec a s fun e s' => match e with
  | .normal => exec b s' k
  | e => k e s'
 | .cond c a b, s, k => match ev s.tm c with
  | some (.d (.bool t)) => match t with
   | true => exec a s k
   | false => exec b s k
  | _ => none
 | .block id c, s, k => exec c s fun e s' => match e with
  | .exit i => if Nat.beq i id then k .normal s' else k (.exit i) s'
  | e => k e s'
 | .loop c, s, k => loopN cx.hint (firstRegion c) (fun s k => exec c s k) cx.fuel s k
 | .scope c, s, k => exec c s fun e s' => match e with
  | .goto _ => none
  | e => k e s'
 | .region id ops draw, s, k =>
  match draw with
  | true => match cx.hint.ord id with
   | none => match cx.hint.pan id with
    | none => runOpsC cx (cx.hint.eff id) ops ops.toList 0 s fun e s => match e with
     | .normal => k .normal (cookAll (cx.hint.cook id) s)
     | _ => none
    | some (e, is, ds) => runPan cx (cx.hint.eff id) ops e is ds s (cooked k (cx.hint.cook id))
   | some (_, os) => runOs cx ops os s fun s => k .normal (cookAll (cx.hint.cook id) s)
  | false => runOpsP cx ops ops.toList 0 s (cooked k (cx.hint.cook id))
 | .rangeFunc f params assign body, s, k =>
  match ev s.tm f with
  | some a =>
   let tm := mapTm demAll s.tm
   let done : Out → G → Option R := fun out g => match out with
    | .ret _ => match g.lp[s.g.lp.length]? with
     | some r => match r.pend with
      | some .normal => none
      | none => k .normal { tm, fr := fun _ => false, g := { g with lp := g.lp.take s.g.lp.length } }
      | some e => k e { tm, fr := fun _ => false, g := { g with lp := g.lp.take s.g.lp.length } }
     | none => none
    | .pan _ => none
   match a with
   | .d (.fn fn caps) => cx.E (.fn fn) (.yld s.g.lp.length :: caps.map .d) (enterRange cx tm s params.toList assign body) done
   | .fn fn caps => cx.E (.fn fn) (.yld s.g.lp.length :: caps) (enterRange cx tm s params.toList assign body) done
   | _ => none
  | none => none
 | .refuse _, _, _ => none
def deferIn : Code → Option (Array Oper × Operand)
 | .region _ ops draw => match draw with
  | true => none
  | false => match ops.back? with
   | some o => match o.guard, o.dst, o.op with
    | none, none, .defer c => match c.callee, c.args.toList with
     | .value f, [] => some (ops, f)
     | _, _ => none
    | _, _, _ => none
   | none => none
 | _ => none
def cloQ : AV → Bool
 | .fn _ _ => true
 | .d (.fn _ _) => true
 | _ => false
def deeper (s : St) : St := { tm := mapTm demAll s.tm, fr := fun _ => false, g := { s.g with dp := s.g.dp + 1 } }
def execD [Same R] : Code → St → (Ex → St → Option R) → (AV → Ex → St → Option R) → Option R
 | .seq a b, s, k, kd => match deferIn a with
  | some (ops, x) => runOps cx (fun _ => true) ops (ops.toList.take (ops.size - 1)) 0 s fun e s' => match e with
   | .normal => match ev s'.tm x with
    | some f => match cloQ f with
     | true => exec cx b (deeper s') (kd f)
     | false => none
    | none => none
   | _ => none
  | none => exec cx a s fun e s' => match e with
   | .normal => execD b s' k kd
   | e => k e s'
 | c, s, k, _ => exec cx c s k
def recOf (F : Func) : Option (Nat × Array Oper × Code) := match F.body with
 | some (.seq (.region _ ops draw) b) => match draw, ops[0]? with
  | false, some o => match o.guard, o.dst, o.op with
   | none, some d, .call c => match c.callee with
    | .builtin r => match r, F.results.toList with
     | .recover, [] => some (d, ops, b)
     | _, _ => none
    | _ => none
   | _, _, _ => none
  | _, _ => none
 | _ => none
def stepsS (ops : Array Oper) : List Oper → St → (St → Option R) → Option R
 | [], s, k => k s
 | o :: rest, s, k => match o.guard, goCall o.op with
  | none, none => match stepOp cx.T cx.hint cx.nt o s with
   | some s' => stepsS ops rest s' k
   | none => none
  | _, _ => none
def runRec [Same R] (d : Nat) (ops : Array Oper) (b : Code) (rv : D) (s : St) (k : Ex → St → Option R) : Option R :=
 if Nat.blt d cx.nt then stepsS cx ops (ops.toList.drop 1) { s with tm := upd s.tm d (some (.d rv)) } fun s => exec cx b s k
 else none
end
def keepLow (n : Nat) : AV → Option AV
 | .d x => some (.d x)
 | .ptr d t o => if Nat.ble d n then some (.ptr d t o) else none
 | _ => none
def lowTm (n : Nat) (tm : Nat → Option AV) : Nat → Option AV := fun t => match tm t with
 | some a => keepLow n a
 | none => none
def argTm : List AV → Nat → Option AV
 | [], _ => none
 | a :: as, t => match t with
  | 0 => some a
  | t + 1 => argTm as t
mutual
 def retAV (bx : Nat → Nat → Option Box) (dp : Nat) : AV → Option AV
  | .d x => some (.d x)
  | .own _ sz es => some (.d (.sl sz es))
  | .ptr d t off => if Nat.blt d dp then some (.ptr d t off) else match bx d t with
   | some b => match AV.datas b.cells with
    | some cs => if Nat.ble off cs.length then some (.d (.at (cs.drop off))) else none
    | none => none
   | none => none
  | .fn f caps => match retAVs bx dp caps with
   | some cs => some (mkFn f cs)
   | none => none
  | .tup _ => none
  | .yld l => some (.yld l)
  | .raw _ _ _ _ _ => none
  | .old _ _ _ => none
 def retAVs (bx : Nat → Nat → Option Box) (dp : Nat) : List AV → Option (List AV)
  | [] => some []
  | a :: as => match retAV bx dp a with
   | some x => match retAVs bx dp as with
    | some xs => some (x :: xs)
    | none => none
   | none => none
end
def retRes (bx : Nat → Nat → Option Box) (dp : Nat) : Nat → List Id → List AV → Option (List AV)
 | _, _, [] => some []
 | j, seen, a :: as => match a with
  | .own i sz es => match retRes bx dp (j + 1) (i :: seen) as with
   | some xs => some ((if seen.any (fun k => decide (k = i)) then .d (.sl sz es) else .own (.res j) sz es) :: xs)
   | none => none
  | a => match retAV bx dp a with
   | some x => match retRes bx dp (j + 1) seen as with
    | some xs => some (x :: xs)
    | none => none
   | none => none
def demRes : List AV → (Nat → Nat → Option Box) → (Nat → Nat → Option Box)
 | [], bx => bx
 | .own i _ _ :: rest, bx => demRes rest (demBx i bx)
 | _ :: rest, bx => demRes rest bx
def resVars (T : Nat → Option TI) (s : St) : List ResultVar → Option (List AV)
 | [] => some []
 | .tmp t :: rest => match s.tm t with
  | some a => match resVars T s rest with
   | some as => some (a :: as)
   | none => none
  | none => none
 | .cell t ty :: rest => match s.tm t with
  | some p => match loadA T s.g.bx ty p with
   | some a => match resVars T s rest with
    | some as => some (nrmA T ty a :: as)
    | none => none
   | none => none
  | none => none
def popG (g : G) (dp : Nat) : G := { g with dp := dp - 1, bx := fun d t => if Nat.beq d dp then none else g.bx d t }
def closedAV : AV → Bool
 | .d _ => true
 | .own _ _ _ => true
 | _ => false
def G0 : G := { bx := fun _ _ => none, dp := 0, lp := [] }
def purify : Out → G → Option Out
 | .ret rs, _ => if rs.all closedAV then some (.ret rs) else none
 | .pan x, _ => some (.pan x)
structure Pr where
 T : Nat → Option TI
 F : FuncId → Option Func
 H : FuncId → Hint
 K : FuncId → Option (List D → Option Out)
 fuel : Nat
 X : FuncId → Option (List AV → G → Option (Bool × Out × G)) := fun _ => none
def recCall {R : Type} [Same R] (p : Pr) (cxOf : FuncId → Func → Cx R) (d1 : Nat) (f' : FuncId) (caps : List AV) (rv : D) (g : G) (k : Ex → St → Option R) : Option R :=
 match p.F f' with
 | some F' => match recOf F' with
  | some (d, ops, b) => match Nat.ble caps.length F'.ntmps && (p.H f').flat with
   | true => runRec (cxOf f' F') d ops b rv { tm := argTm caps, fr := fun _ => false, g := { popG g (d1 + 1) with dp := d1 + 1 } } k
   | false => none
  | none => none
 | none => none
def recAV {R : Type} [Same R] (p : Pr) (cxOf : FuncId → Func → Cx R) (d1 : Nat) (a : AV) (rv : D) (g : G) (k : Ex → St → Option R) : Option R := match a with
 | .fn (.func f') caps => recCall p cxOf d1 f' caps rv g k
 | .d (.fn (.func f') ds) => recCall p cxOf d1 f' (ds.map .d) rv g k
 | _ => none
def afterRec {R : Type} (d1 : Nat) (tm : Nat → Option AV) (done : St → Option R) : Ex → St → Option R := fun e s' => match e with
 | .normal => done { tm := lowTm d1 tm, fr := fun _ => false, g := popG s'.g (d1 + 1) }
 | .ret => done { tm := lowTm d1 tm, fr := fun _ => false, g := popG s'.g (d1 + 1) }
 | _ => none
def nrmArgs (p : Pr) (f : FuncId) (ds : List D) : List D := match p.F f with
 | some F => nrmDs p.T F.params.toList ds
 | none => ds
def setPend (l : Nat) (e : Option Ex) (g : G) : G := { g with lp := g.lp.modify l fun r => { r with pend := e } }
def distinct : List Nat → Bool
 | [] => true
 | x :: xs => !(xs.any (Nat.beq x ·)) && distinct xs
def hidG (g : G) : G := { bx := fun d t => if Nat.beq d g.dp then none else g.bx d t, dp := g.dp - 1, lp := g.lp }
def unG (g g' : G) : G := { bx := fun d t => if Nat.beq d g.dp then (match g.bx d t with
    | some b => some { b with cells := demAlls b.cells }
    | none => none) else g'.bx d t, dp := g.dp, lp := g'.lp }
def hideE {R : Type} (on : Bool) (E : Cal → List AV → G → (Out → G → Option R) → Option R) : Cal → List AV → G → (Out → G → Option R) → Option R := fun cal args g k => match cal with
 | .fn f => if on && Nat.ble 1 g.dp && AV.uptos (g.dp - 1) args && g.lp.all (fun r => Nat.blt r.dp g.dp) then E (.fn f) args (hidG g) (fun out g' => k out (unG g g')) else E (.fn f) args g k
 | .yld l => E (.yld l) args g k
def run (p : Pr) : Nat → (R : Type) → [Same R] → Cal → List AV → G → (Out → G → Option R) → Option R
  | 0, _, _, _, _, _, _ => none
  | n + 1, R, _, c, args, g, k =>
    let C : Fn → List D → Option Out := fun fn ds => match fn with
      | .func f => match p.K f with
        | some kf => kf ds
        | none => run p n Out (.fn fn) ((nrmArgs p f ds).map .d) G0 purify
      | _ => none
    match c with
    | .fn (.func f) => match p.X f with
      | some x => match x args g with
        | some (c, out, g') => match c with
          | true => k out g'
          | false => none
        | none => none
      | none => match p.F f with
        | some F => match F.body with
          | some code => if Nat.ble args.length F.ntmps then
            let cx : Cx R := { T := p.T, fuel := p.fuel, C, E := hideE (p.H f).hide (run p n R), hint := p.H f, fid := f, nt := F.ntmps }
            let s0 : St := { tm := argTm args, fr := fun _ => false, g := { g with dp := g.dp + 1 } }
            let done : St → Option R := fun s => match resVars p.T s F.results.toList with
              | some rs => match retRes s.g.bx (g.dp + 1) 0 [] rs with
                | some rs' => k (.ret rs') (popG { s.g with bx := demRes rs s.g.bx } (g.dp + 1))
                | none => none
              | none => none
            let fin : Ex → St → Option R := fun e s => match e with
              | .panic x => k (.pan x) (popG s.g (g.dp + 1))
              | .exit _ => none
              | .goto _ => none
              | _ => done s
            match (p.H f).dfr with
            | false => exec cx code s0 fin
            | true => match (p.H f).flat with
              | false => none
              | true =>
                let cxOf : FuncId → Func → Cx R := fun f' F' => { T := p.T, fuel := p.fuel, C, E := hideE (p.H f').hide (run p n R), hint := p.H f', fid := f', nt := F'.ntmps }
                execD cx code s0 fin fun a e s => match e with
                  | .panic x => recAV p cxOf (g.dp + 1) a x s.g (afterRec (g.dp + 1) s.tm done)
                  | .normal => recAV p cxOf (g.dp + 1) a .nili s.g (afterRec (g.dp + 1) s.tm done)
                  | .ret => recAV p cxOf (g.dp + 1) a .nili s.g (afterRec (g.dp + 1) s.tm done)
                  | _ => none
            else none
          | none => none
        | none => none
    | .fn _ => none
    | .yld l => match g.lp[l]? with
      | some r => match r.pend, AV.datas args with
        | none, some ds =>
          let cx : Cx R := { T := p.T, fuel := p.fuel, C, E := hideE r.hint.hide (run p n R), hint := r.hint, fid := r.fid, nt := r.nt }
          if Nat.beq ds.length r.params.length && distinct r.params && r.params.all (Nat.blt · r.nt) then
            exec cx r.assign { tm := fun t => match look (r.params.zip (ds.map fun x => some (AV.d x))) t with
              | some a => some a
              | none => r.tm t, fr := fun _ => false, g := { g with dp := g.dp + 1 } } fun e s => match e with
                | .normal => match s.g.lp[l]? with
                  | some r1 => match r1.pend with
                    | none => exec cx r.body { tm := s.tm, fr := s.fr, g := setPend l (some .normal) s.g } fun e s => match e with
                      | .normal => k (.ret [.d (.bool true)]) (setPend l none (popG s.g (g.dp + 1)))
                      | .panic _ => none
                      | e => k (.ret [.d (.bool false)]) (setPend l (some e) (popG s.g (g.dp + 1)))
                    | some _ => none
                  | none => none
                | _ => none
          else none
        | _, _ => none
      | none => none
def pcall (p : Pr) (n : Nat) (f : FuncId) (ds : List D) : Option Out := run p n Out (.fn (.func f)) (ds.map .d) G0 purify
end Go.Abs
namespace Go.Abs
open Go
set_option linter.unusedVariables false
def cellsAt (w : World) (b o : Nat) (vs : List Value) : Prop := ∀ k u, vs[k]? = some u → w.cell? ⟨b, o + k, none⟩ = some u ∧ u.oneCell' = true
mutual
 def RepV (w : World) (L : Nat → Nat) : D → Value → Prop
  | .bool b, v => v = .bool b
  | .int k n, v => v = .int k n
  | .str s, v => v = .string s
  | .nilp, v => v = .pointer none
  | .nilf, v => v = .nilFunc
  | .nili, v => v = .nilIface
  | .nilm, v => v = .map none
  | .nils, v => v = .slice none 0 0
  | .iface t x, v => ∃ u, v = .iface t u ∧ RepV w L x u
  | .emp _, v => ∃ ad c, v = .slice (some ad) 0 c
  | .sl sz es, v => ∃ a n c vs, v = .slice a n c ∧ n = es.length ∧ n ≤ c ∧ (∀ e ∈ es, e.length = sz) ∧ RepF w L es vs ∧
    (n = 0 ∨ ∃ b o, a = some ⟨b, o, none⟩ ∧ o + n * sz ≤ L b ∧ cellsAt w b o vs)
  | .full sz es, v => ∃ a n vs, v = .slice a n n ∧ n = es.length ∧ (∀ e ∈ es, e.length = sz) ∧ RepF w L es vs ∧
    (n = 0 ∨ ∃ b o, a = some ⟨b, o, none⟩ ∧ o + n * sz ≤ L b ∧ cellsAt w b o vs)
  | .fn f caps, v => ∃ cv : Array Value, v = .func f #[] cv ∧ RepVs w L caps cv.toList
  | .at cs, v => ∃ b o vs, v = .pointer (some ⟨b, o, none⟩) ∧ RepVs w L cs vs ∧ o + cs.length ≤ L b ∧ cellsAt w b o vs
  | .agg cs, v => ∃ cv : Array Value, v = .agg cv ∧ RepVs w L cs cv.toList ∧ ∀ u ∈ cv.toList, u.oneCell' = true
 def RepVs (w : World) (L : Nat → Nat) : List D → List Value → Prop
  | [], vs => vs = []
  | x :: xs, vs => ∃ u us, vs = u :: us ∧ RepV w L x u ∧ RepVs w L xs us
 def RepF (w : World) (L : Nat → Nat) : List (List D) → List Value → Prop
  | [], vs => vs = []
  | e :: es, vs => ∃ us ts, vs = us ++ ts ∧ RepVs w L e us ∧ RepF w L es ts
end
structure Ext (w : World) (L : Nat → Nat) (w' : World) (L' : Nat → Nat) : Prop where
 lim : ∀ b, L b ≤ L' b
 cell : ∀ b i, i < L b → w'.cell? ⟨b, i, none⟩ = w.cell? ⟨b, i, none⟩
theorem Ext.refl (w : World) (L : Nat → Nat) : Ext w L w L := ⟨fun _ => Nat.le_refl _, fun _ _ _ => rfl⟩
theorem Ext.trans {w w' w'' : World} {L L' L'' : Nat → Nat} (h : Ext w L w' L') (k : Ext w' L' w'' L'') : Ext w L w'' L'' :=
 ⟨fun b => Nat.le_trans (h.lim b) (k.lim b), fun b i hi => (k.cell b i (Nat.lt_of_lt_of_le hi (h.lim b))).trans (h.cell b i hi)⟩
theorem RepVs.length {w : World} {L : Nat → Nat} : ∀ {xs : List D} {vs : List Value}, RepVs w L xs vs → vs.length = xs.length
 | [], _, h => by simp [RepVs] at h; simp [h]
 | x :: xs, vs, h => by
  simp only [RepVs] at h
  obtain ⟨u, us, rfl, _, h2⟩ := h
  simp [RepVs.length h2]
theorem RepF.length {w : World} {L : Nat → Nat} {sz : Nat} : ∀ {es : List (List D)} {vs : List Value}, RepF w L es vs → (∀ e ∈ es, e.length = sz) → vs.length = es.length * sz
 | [], _, h, _ => by simp [RepF] at h; simp [h]
 | e :: es, vs, h, hs => by
  simp only [RepF] at h
  obtain ⟨us, ts, rfl, h1, h2⟩ := h
  have := RepVs.length h1
  have := RepF.length h2 (fun e he => hs e (by simp [he]))
  have := hs e (by simp)
  simp [*, Nat.succ_mul, Nat.add_comm]
theorem cellsAt.ext {w w' : World} {L L' : Nat → Nat} (h : Ext w L w' L') {b o : Nat} {vs : List Value} (hc : cellsAt w b o vs) (hl : o + vs.length ≤ L b) : cellsAt w' b o vs := by
 intro k u hk
 have hlt : k < vs.length := (List.getElem?_eq_some_iff.1 hk).1
 rw [h.cell b (o + k) (by omega)]
 exact hc k u hk
mutual
 theorem RepV.ext {w w' : World} {L L' : Nat → Nat} (h : Ext w L w' L') : ∀ (x : D) (v : Value), RepV w L x v → RepV w' L' x v
  | .bool _, _, hv | .int _ _, _, hv | .str _, _, hv | .nilp, _, hv | .nilf, _, hv | .nili, _, hv | .nilm, _, hv | .nils, _, hv => by simpa only [RepV] using hv
  | .emp _, v, hv => by simpa only [RepV] using hv
  | .iface t x, v, hv => by
   simp only [RepV] at hv ⊢
   obtain ⟨u, rfl, hu⟩ := hv
   exact ⟨u, rfl, RepV.ext h x u hu⟩
  | .sl sz es, v, hv => by
   simp only [RepV] at hv ⊢
   obtain ⟨a, n, c, vs, rfl, hn, hc, hs, hf, hm⟩ := hv
   refine ⟨a, n, c, vs, rfl, hn, hc, hs, RepF.ext h es vs hf, ?_⟩
   rcases hm with h0 | ⟨b, o, ha, hl, hcells⟩
   ·exact .inl h0
   ·have hlen := RepF.length hf hs
    exact .inr ⟨b, o, ha, Nat.le_trans hl (h.lim b), hcells.ext h (by rw [hlen, ← hn]; exact hl)⟩
  | .full sz es, v, hv => by
   simp only [RepV] at hv ⊢
   obtain ⟨a, n, vs, rfl, hn, hs, hf, hm⟩ := hv
   refine ⟨a, n, vs, rfl, hn, hs, RepF.ext h es vs hf, ?_⟩
   rcases hm with h0 | ⟨b, o, ha, hl, hcells⟩
   ·exact .inl h0
   ·have hlen := RepF.length hf hs
    exact .inr ⟨b, o, ha, Nat.le_trans hl (h.lim b), hcells.ext h (by rw [hlen, ← hn]; exact hl)⟩
  | .fn f caps, v, hv => by
   simp only [RepV] at hv ⊢
   obtain ⟨cv, rfl, hc⟩ := hv
   exact ⟨cv, rfl, RepVs.ext h caps _ hc⟩
  | .at cs, v, hv => by
   simp only [RepV] at hv ⊢
   obtain ⟨b, o, vs, rfl, hr, hl, hc⟩ := hv
   have hlen := RepVs.length hr
   exact ⟨b, o, vs, rfl, RepVs.ext h cs vs hr, Nat.le_trans hl (h.lim b), hc.ext h (by rw [hlen]; exact hl)⟩
  | .agg cs, v, hv => by
   simp only [RepV] at hv ⊢
   obtain ⟨cv, rfl, hc, h1⟩ := hv
   exact ⟨cv, rfl, RepVs.ext h cs _ hc, h1⟩
 theorem RepVs.ext {w w' : World} {L L' : Nat → Nat} (h : Ext w L w' L') : ∀ (xs : List D) (vs : List Value), RepVs w L xs vs → RepVs w' L' xs vs
  | [], _, hv => by simpa only [RepVs] using hv
  | x :: xs, vs, hv => by
   simp only [RepVs] at hv ⊢
   obtain ⟨u, us, rfl, h1, h2⟩ := hv
   exact ⟨u, us, rfl, RepV.ext h x u h1, RepVs.ext h xs us h2⟩
 theorem RepF.ext {w w' : World} {L L' : Nat → Nat} (h : Ext w L w' L') : ∀ (es : List (List D)) (vs : List Value), RepF w L es vs → RepF w' L' es vs
  | [], _, hv => by simpa only [RepF] using hv
  | e :: es, vs, hv => by
   simp only [RepF] at hv ⊢
   obtain ⟨us, ts, rfl, h1, h2⟩ := hv
   exact ⟨us, ts, rfl, RepVs.ext h e us h1, RepF.ext h es ts h2⟩
end
theorem RepV.nrm1 {w : World} {L : Nat → Nat} {k : Nat} {x : D} {v : Value} (h : RepV w L x v) : RepV w L (nrm1 k x) v := by
 unfold Go.Abs.nrm1
 split
 ·simp only [RepV] at h ⊢
  subst h
  exact ⟨none, 0, 0, [], rfl, rfl, Nat.le_refl _, (fun e he => by cases he), rfl, .inl rfl⟩
 ·simp only [RepV] at h ⊢
  obtain ⟨a, n, vs, rfl, hn, hs, hf, hm⟩ := h
  exact ⟨a, n, n, vs, rfl, hn, Nat.le_refl _, hs, hf, hm⟩
 ·simp only [RepV] at h ⊢
  obtain ⟨ad, c, rfl⟩ := h
  exact ⟨some ad, 0, c, [], rfl, rfl, Nat.zero_le _, (fun e he => by cases he), rfl, .inl rfl⟩
 ·exact h
theorem RepVs.nrmC {w : World} {L : Nat → Nat} : ∀ {ks : List Nat} {cs : List D} {vs : List Value}, RepVs w L cs vs → RepVs w L (nrmC ks cs) vs
 | [], cs, vs, h => by simpa only [Go.Abs.nrmC] using h
 | k :: ks, [], vs, h => by simpa only [Go.Abs.nrmC] using h
 | k :: ks, c :: cs, vs, h => by
  simp only [Go.Abs.nrmC, RepVs] at h ⊢
  obtain ⟨u, us, rfl, h1, h2⟩ := h
  exact ⟨u, us, rfl, h1.nrm1, RepVs.nrmC h2⟩
theorem nrmC_len : ∀ (ks : List Nat) (cs : List D), (nrmC ks cs).length = cs.length
 | [], cs => by simp [nrmC]
 | k :: ks, [] => by simp [nrmC]
 | k :: ks, c :: cs => by simp [nrmC, nrmC_len ks cs]
theorem RepF.nrmC {w : World} {L : Nat → Nat} {ks : List Nat} : ∀ {es : List (List D)} {vs : List Value}, RepF w L es vs → RepF w L (es.map (nrmC ks)) vs
 | [], vs, h => by simpa only [List.map_nil] using h
 | e :: es, vs, h => by
  simp only [List.map_cons, RepF] at h ⊢
  obtain ⟨us, ts, rfl, h1, h2⟩ := h
  exact ⟨us, ts, rfl, h1.nrmC, RepF.nrmC h2⟩
theorem RepV.nrmD {w : World} {L : Nat → Nat} {T : Nat → Option TI} {t : Nat} {x : D} {v : Value} (h : RepV w L x v) : RepV w L (nrmD T t x) v := by
 unfold Go.Abs.nrmD
 split
 ·split
  ·simp only [RepV] at h ⊢
   obtain ⟨cv, rfl, h1, h2⟩ := h
   exact ⟨cv, rfl, h1.nrmC, h2⟩
  ·exact h
 ·exact h
theorem RepVs.nrmDs {w : World} {L : Nat → Nat} {T : Nat → Option TI} : ∀ {ts : List Nat} {xs : List D} {vs : List Value}, RepVs w L xs vs → RepVs w L (nrmDs T ts xs) vs
 | [], xs, vs, h => by simpa only [Go.Abs.nrmDs] using h
 | t :: ts, [], vs, h => by simpa only [Go.Abs.nrmDs] using h
 | t :: ts, x :: xs, vs, h => by
  simp only [Go.Abs.nrmDs, RepVs] at h ⊢
  obtain ⟨u, us, rfl, h1, h2⟩ := h
  exact ⟨u, us, rfl, h1.nrmD, RepVs.nrmDs h2⟩
theorem RepV.one {w : World} {L : Nat → Nat} : ∀ {x : D} {v : Value}, RepV w L x v → (∀ cs, x ≠ .agg cs) → v.oneCell' = true
 | .bool _, _, h, _ | .int _ _, _, h, _ | .str _, _, h, _ | .nilp, _, h, _ | .nilf, _, h, _ | .nili, _, h, _ | .nilm, _, h, _ | .nils, _, h, _ => by
  simp only [RepV] at h; subst h; rfl
 | .iface _ _, _, h, _ => by simp only [RepV] at h; obtain ⟨u, rfl, _⟩ := h; rfl
 | .emp _, _, h, _ => by simp only [RepV] at h; obtain ⟨_, _, rfl⟩ := h; rfl
 | .sl _ _, _, h, _ => by simp only [RepV] at h; obtain ⟨_, _, _, _, rfl, _⟩ := h; rfl
 | .full _ _, _, h, _ => by simp only [RepV] at h; obtain ⟨_, _, _, rfl, _⟩ := h; rfl
 | .fn _ _, _, h, _ => by simp only [RepV] at h; obtain ⟨_, rfl, _⟩ := h; rfl
 | .at _, _, h, _ => by simp only [RepV] at h; obtain ⟨_, _, _, rfl, _⟩ := h; rfl
 | .agg cs, _, _, hn => absurd rfl (hn cs)
theorem RepV.cells {w : World} {L : Nat → Nat} : ∀ {x : D} {v : Value}, RepV w L x v → RepVs w L x.cells v.cells.toList ∧ ∀ u ∈ v.cells.toList, u.oneCell' = true := by
 intro x v h
 by_cases hx : ∃ cs, x = .agg cs
 ·obtain ⟨cs, rfl⟩ := hx
  simp only [RepV] at h
  obtain ⟨cv, rfl, h1, h2⟩ := h
  exact ⟨by simpa [D.cells, Value.cells] using h1, by simpa [Value.cells] using h2⟩
 ·have h1 := h.one (fun cs e => hx ⟨cs, e⟩)
  have hc : x.cells = [x] := by cases x <;> first | rfl | exact absurd ⟨_, rfl⟩ hx
  have hv : v.cells = #[v] := by cases v <;> first | rfl | simp [Value.oneCell'] at h1
  rw [hc, hv]
  exact ⟨⟨v, [], rfl, h, rfl⟩, by simpa using h1⟩
structure Gh where
 L : Nat → Nat
 be : Nat → Nat → Option Nat
 ga : Id → Option Nat
 ro : Nat → Nat × Nat
 df : List Deferred := []
 flat : Bool := false
def Owned (w : World) (h : Gh) (i : Id) (sz : Nat) (es : List (List D)) (v : Value) : Prop :=
 ∃ b n c vs cc e, v = .slice (some ⟨b, 0, none⟩) n c ∧ n = es.length ∧ n ≤ c ∧ (∀ x ∈ es, x.length = sz) ∧ RepF w h.L es vs ∧
  h.ga i = some b ∧ h.L b = n * sz ∧ w.heap[b]? = some (.cells cc e (0, 0)) ∧ c * sz ≤ cc.size ∧ cellsAt w b 0 vs
def RawRow (w : World) (h : Gh) (o : Option Nat) (k : Nat) (i : Id) (sz : Nat) (es : List (List D)) (v : Value) : Prop :=
 ∃ b n c vs cc e, v = (match o with
   | none => .slice (some ⟨b, 0, none⟩) n c
   | some m => .pointer (some ⟨b, m * sz, none⟩)) ∧ (∀ m, o = some m → m < n) ∧ n = es.length ∧ n ≤ c ∧ k ≤ n ∧ (∀ x ∈ es, x.length = sz) ∧ RepF w h.L es vs ∧
  h.ga i = some b ∧ h.L b = k * sz ∧ w.heap[b]? = some (.cells cc e (0, 0)) ∧ c * sz ≤ cc.size ∧ cellsAt w b 0 vs
def OldRef (o : Option Nat) (n : Nat) (v : Value) : Prop := match o with
 | none => ∃ a c, v = .slice a n c ∧ (n = 0 ∨ ∃ b off, a = some ⟨b, off, none⟩)
 | some _ => ∃ b off, v = .pointer (some ⟨b, off, none⟩)
theorem OldRef.one {o : Option Nat} {n : Nat} {v : Value} (h : OldRef o n v) : v.oneCell' = true := by
 cases o with
 | none => obtain ⟨_, _, rfl, _⟩ := h; rfl
 | some m => obtain ⟨_, _, rfl⟩ := h; rfl
mutual
 def RepA (w : World) (h : Gh) : AV → Value → Prop
  | .d x, v => RepV w h.L x v
  | .own i sz es, v => RepV w h.L (.full sz es) v ∨ Owned w h i sz es v
  | .ptr d t off, v => ∃ b, h.be d t = some b ∧ v = .pointer (some ⟨b, off, none⟩)
  | .fn f caps, v => ∃ cv : Array Value, v = .func f #[] cv ∧ RepAs w h caps cv.toList
  | .tup xs, v => ∃ cv : Array Value, v = .tuple cv ∧ RepAs w h xs cv.toList
  | .yld l, v => v = .func (.yield (h.ro l).1) #[] #[]
  | .raw o k i sz es, v => (o = none ∧ (k = es.length ∧ es = []) ∧ RepV w h.L (.full sz es) v) ∨ ((k = es.length ∧ es = []) ∧ o.isSome = true ∧ OldRef o es.length v) ∨ RawRow w h o k i sz es v
  | .old o _ n, v => OldRef o n v
 def RepAs (w : World) (h : Gh) : List AV → List Value → Prop
  | [], vs => vs = []
  | a :: as, vs => ∃ u us, vs = u :: us ∧ RepA w h a u ∧ RepAs w h as us
end
theorem RepAs.length {w : World} {h : Gh} : ∀ {xs : List AV} {vs : List Value}, RepAs w h xs vs → vs.length = xs.length
 | [], _, hh => by simp [RepAs] at hh; simp [hh]
 | x :: xs, vs, hh => by
  simp only [RepAs] at hh
  obtain ⟨u, us, rfl, _, h2⟩ := hh
  simp [RepAs.length h2]
theorem RepV.sl_of_full {w : World} {L : Nat → Nat} {sz : Nat} {es : List (List D)} {v : Value} (h : RepV w L (.full sz es) v) : RepV w L (.sl sz es) v := by
 simp only [RepV] at h ⊢
 obtain ⟨a, n, vs, rfl, hn, hs, hf, hm⟩ := h
 exact ⟨a, n, n, vs, rfl, hn, Nat.le_refl _, hs, hf, hm⟩
theorem Owned.sl {w : World} {h : Gh} {i : Id} {sz : Nat} {es : List (List D)} {v : Value} (ho : Owned w h i sz es v) : RepV w h.L (.sl sz es) v := by
 obtain ⟨b, n, c, vs, cc, e, rfl, hn, hc, hs, hf, hg, hL, hh, hr, hcells⟩ := ho
 simp only [RepV]
 exact ⟨_, n, c, vs, rfl, hn, hc, hs, hf, .inr ⟨b, 0, rfl, by omega, hcells⟩⟩
theorem RepA.raw_old {w : World} {h : Gh} {o : Option Nat} {k : Nat} {i : Id} {sz : Nat} {es : List (List D)} {v : Value} (hr : RepA w h (.raw o k i sz es) v) : OldRef o es.length v := by
 simp only [RepA] at hr
 rcases hr with ⟨ho, _, hr⟩ | ⟨_, _, hr⟩ | ⟨b, n, c, vs, cc, e, hv, _, hn, _⟩
 ·simp only [RepV] at hr
  obtain ⟨a, n, vs, rfl, hn, _, _, hm⟩ := hr
  subst ho
  subst hn
  exact ⟨a, _, rfl, hm.imp id fun ⟨b, o, ha, _⟩ => ⟨b, o, ha⟩⟩
 ·exact hr
 ·subst hv
  subst hn
  cases o with
  | none => exact ⟨_, _, rfl, .inr ⟨_, _, rfl⟩⟩
  | some m => exact ⟨_, _, rfl⟩
theorem RepA.raw_one {w : World} {h : Gh} {o : Option Nat} {k : Nat} {i : Id} {sz : Nat} {es : List (List D)} {v : Value} (hr : RepA w h (.raw o k i sz es) v) : v.oneCell' = true := hr.raw_old.one
theorem RepA.raw_map {w w' : World} {h h' : Gh} {o : Option Nat} {k : Nat} {i : Id} {sz : Nat} {es : List (List D)} {v : Value} (hr : RepA w h (.raw o k i sz es) v) (hE : Ext w h.L w' h'.L)
  (hga : ∀ b, h.ga i = some b → h'.ga i = some b ∧ h'.L b = h.L b ∧ w'.heap[b]? = w.heap[b]?) : RepA w' h' (.raw o k i sz es) v := by
 simp only [RepA] at hr ⊢
 rcases hr with ⟨ho, hk, hr⟩ | hr | ⟨b, n, c, vs, cc, e, hv, hm, hn, hc, hkn, hs, hf, hg, hL, hh, hrm, hcells⟩
 ·exact .inl ⟨ho, hk, hr.ext hE⟩
 ·exact .inr (.inl hr)
 ·obtain ⟨g1, g2, g3⟩ := hga b hg
  refine .inr (.inr ⟨b, n, c, vs, cc, e, hv, hm, hn, hc, hkn, hs, RepF.ext hE es vs hf, g1, by rw [g2, hL], by rw [g3, hh], hrm, ?_⟩)
  intro j u hj
  have := hcells j u hj
  rw [World.cell?_of_block g3]
  exact this
theorem RepA.own_sl {w : World} {h : Gh} {i : Id} {sz : Nat} {es : List (List D)} {v : Value} (ho : RepA w h (.own i sz es) v) : RepV w h.L (.sl sz es) v := by
 simp only [RepA] at ho
 rcases ho with ho | ho
 ·exact ho.sl_of_full
 ·exact ho.sl
mutual
 theorem RepA.data {w : World} {h : Gh} : ∀ (a : AV) (x : D) (v : Value), a.data = some x → RepA w h a v → RepV w h.L x v
  | .d y, x, v, hd, hr => by
   simp only [AV.data, Option.some.injEq] at hd; subst hd; simpa only [RepA] using hr
  | .own i sz es, x, v, hd, hr => by
   simp only [AV.data, Option.some.injEq] at hd; subst hd; exact hr.own_sl
  | .ptr _ _ _, x, v, hd, hr => by simp [AV.data] at hd
  | .yld _, x, v, hd, hr => by simp [AV.data] at hd
  | .tup _, x, v, hd, hr => by simp [AV.data] at hd
  | .fn f caps, x, v, hd, hr => by
   simp only [AV.data] at hd
   cases hc : AV.datas caps with
   | none => simp [hc] at hd
   | some ds =>
    simp only [hc, Option.some.injEq] at hd; subst hd
    simp only [RepA] at hr
    obtain ⟨cv, rfl, hcv⟩ := hr
    simp only [RepV]
    exact ⟨cv, rfl, RepAs.datas caps ds _ hc hcv⟩
 theorem RepAs.datas {w : World} {h : Gh} : ∀ (as : List AV) (xs : List D) (vs : List Value), AV.datas as = some xs → RepAs w h as vs → RepVs w h.L xs vs
  | [], xs, vs, hd, hr => by
   simp only [AV.datas, Option.some.injEq] at hd; subst hd; simpa only [RepAs, RepVs] using hr
  | a :: as, xs, vs, hd, hr => by
   simp only [AV.datas] at hd
   cases h1 : a.data with
   | none => simp [h1] at hd
   | some x =>
    cases h2 : AV.datas as with
    | none => simp [h1, h2] at hd
    | some ys =>
     simp only [h1, h2, Option.some.injEq] at hd; subst hd
     simp only [RepAs] at hr
     obtain ⟨u, us, rfl, hu, hus⟩ := hr
     simp only [RepVs]
     exact ⟨u, us, rfl, RepA.data a x u h1 hu, RepAs.datas as ys us h2 hus⟩
end
theorem RepAs.of_d {w : World} {h : Gh} : ∀ {xs : List D} {vs : List Value}, RepVs w h.L xs vs → RepAs w h (xs.map .d) vs
 | [], vs, hr => by simpa only [RepVs, RepAs, List.map_nil] using hr
 | x :: xs, vs, hr => by
  simp only [RepVs] at hr
  obtain ⟨u, us, rfl, hu, hus⟩ := hr
  simp only [List.map_cons, RepAs]
  exact ⟨u, us, rfl, by simpa only [RepA] using hu, RepAs.of_d hus⟩
theorem RepVs.get {w : World} {L : Nat → Nat} : ∀ {xs : List D} {vs : List Value} {k : Nat} {x : D}, RepVs w L xs vs → xs[k]? = some x → ∃ u, vs[k]? = some u ∧ RepV w L x u
 | [], _, _, _, _, hk => by simp at hk
 | y :: ys, vs, k, x, h, hk => by
  simp only [RepVs] at h
  obtain ⟨u, us, rfl, h1, h2⟩ := h
  cases k with
  | zero => simp at hk; subst hk; exact ⟨u, rfl, h1⟩
  | succ k => simpa using RepVs.get h2 (by simpa using hk)
theorem RepAs.get {w : World} {h : Gh} : ∀ {xs : List AV} {vs : List Value} {k : Nat} {x : AV}, RepAs w h xs vs → xs[k]? = some x → ∃ u, vs[k]? = some u ∧ RepA w h x u
 | [], _, _, _, _, hk => by simp at hk
 | y :: ys, vs, k, x, hh, hk => by
  simp only [RepAs] at hh
  obtain ⟨u, us, rfl, h1, h2⟩ := hh
  cases k with
  | zero => simp at hk; subst hk; exact ⟨u, rfl, h1⟩
  | succ k => simpa using RepAs.get h2 (by simpa using hk)
theorem RepVs.drop {w : World} {L : Nat → Nat} : ∀ {k : Nat} {xs : List D} {vs : List Value}, RepVs w L xs vs → RepVs w L (xs.drop k) (vs.drop k)
 | 0, _, _, h => by simpa using h
 | k + 1, [], vs, h => by simp [RepVs] at h; simp [h, RepVs]
 | k + 1, x :: xs, vs, h => by
  simp only [RepVs] at h
  obtain ⟨u, us, rfl, _, h2⟩ := h
  simpa using RepVs.drop (k := k) h2
theorem RepVs.take {w : World} {L : Nat → Nat} : ∀ {k : Nat} {xs : List D} {vs : List Value}, RepVs w L xs vs → RepVs w L (xs.take k) (vs.take k)
 | 0, _, _, h => by simp [RepVs]
 | k + 1, [], vs, h => by simp [RepVs] at h; simp [h, RepVs]
 | k + 1, x :: xs, vs, h => by
  simp only [RepVs] at h
  obtain ⟨u, us, rfl, h1, h2⟩ := h
  simp only [List.take_succ_cons, RepVs]
  exact ⟨u, us.take k, rfl, h1, RepVs.take (k := k) h2⟩
theorem RepVs.append {w : World} {L : Nat → Nat} : ∀ {xs : List D} {vs : List Value} {ys : List D} {us : List Value}, RepVs w L xs vs → RepVs w L ys us → RepVs w L (xs ++ ys) (vs ++ us)
 | [], vs, _, _, h, h' => by simp only [RepVs] at h; subst h; simpa using h'
 | x :: xs, vs, _, _, h, h' => by
  simp only [RepVs] at h
  obtain ⟨u, us, rfl, h1, h2⟩ := h
  simp only [List.cons_append, RepVs]
  exact ⟨u, _, rfl, h1, RepVs.append h2 h'⟩
theorem RepAs.drop {w : World} {h : Gh} : ∀ {k : Nat} {xs : List AV} {vs : List Value}, RepAs w h xs vs → RepAs w h (xs.drop k) (vs.drop k)
 | 0, _, _, hh => by simpa using hh
 | k + 1, [], vs, hh => by simp [RepAs] at hh; simp [hh, RepAs]
 | k + 1, x :: xs, vs, hh => by
  simp only [RepAs] at hh
  obtain ⟨u, us, rfl, _, h2⟩ := hh
  simpa using RepAs.drop (k := k) h2
theorem RepAs.take {w : World} {h : Gh} : ∀ {k : Nat} {xs : List AV} {vs : List Value}, RepAs w h xs vs → RepAs w h (xs.take k) (vs.take k)
 | 0, _, _, hh => by simp [RepAs]
 | k + 1, [], vs, hh => by simp [RepAs] at hh; simp [hh, RepAs]
 | k + 1, x :: xs, vs, hh => by
  simp only [RepAs] at hh
  obtain ⟨u, us, rfl, h1, h2⟩ := hh
  simp only [List.take_succ_cons, RepAs]
  exact ⟨u, us.take k, rfl, h1, RepAs.take (k := k) h2⟩
theorem RepAs.append {w : World} {h : Gh} : ∀ {xs : List AV} {vs : List Value} {ys : List AV} {us : List Value}, RepAs w h xs vs → RepAs w h ys us → RepAs w h (xs ++ ys) (vs ++ us)
 | [], vs, _, _, hh, h' => by simp only [RepAs] at hh; subst hh; simpa using h'
 | x :: xs, vs, _, _, hh, h' => by
  simp only [RepAs] at hh
  obtain ⟨u, us, rfl, h1, h2⟩ := hh
  simp only [List.cons_append, RepAs]
  exact ⟨u, _, rfl, h1, RepAs.append h2 h'⟩
theorem RepF.append {w : World} {L : Nat → Nat} : ∀ {xs : List (List D)} {vs : List Value} {ys : List (List D)} {us : List Value}, RepF w L xs vs → RepF w L ys us → RepF w L (xs ++ ys) (vs ++ us)
 | [], vs, _, _, h, h' => by simp only [RepF] at h; subst h; simpa using h'
 | x :: xs, vs, _, _, h, h' => by
  simp only [RepF] at h
  obtain ⟨a, b, rfl, h1, h2⟩ := h
  simp only [List.cons_append, RepF]
  exact ⟨a, _, List.append_assoc _ _ _, h1, RepF.append h2 h'⟩
theorem RepF.drop {w : World} {L : Nat → Nat} {sz : Nat} : ∀ {k : Nat} {es : List (List D)} {vs : List Value}, RepF w L es vs → (∀ e ∈ es, e.length = sz) → RepF w L (es.drop k) (vs.drop (k * sz))
 | 0, _, _, h, _ => by simpa using h
 | k + 1, [], vs, h, _ => by simp [RepF] at h; simp [h, RepF]
 | k + 1, e :: es, vs, h, hs => by
  simp only [RepF] at h
  obtain ⟨a, b, rfl, h1, h2⟩ := h
  have h3 := RepF.drop (k := k) h2 (fun e he => hs e (by simp [he]))
  have hl : a.length = sz := by rw [RepVs.length h1]; exact hs e (by simp)
  have : (k + 1) * sz = a.length + k * sz := by rw [Nat.succ_mul, hl, Nat.add_comm]
  rw [this, List.drop_append, List.drop_eq_nil_of_le (as := a) (i := a.length + k * sz) (by omega), Nat.add_sub_cancel_left]
  simpa using h3
theorem RepF.take {w : World} {L : Nat → Nat} {sz : Nat} : ∀ {k : Nat} {es : List (List D)} {vs : List Value}, RepF w L es vs → (∀ e ∈ es, e.length = sz) → RepF w L (es.take k) (vs.take (k * sz))
 | 0, _, _, h, _ => by simp [RepF]
 | k + 1, [], vs, h, _ => by simp [RepF] at h; simp [h, RepF]
 | k + 1, e :: es, vs, h, hs => by
  simp only [RepF] at h
  obtain ⟨a, b, rfl, h1, h2⟩ := h
  have h3 := RepF.take (k := k) h2 (fun e he => hs e (by simp [he]))
  have hl : a.length = sz := by rw [RepVs.length h1]; exact hs e (by simp)
  have : (k + 1) * sz = a.length + k * sz := by rw [Nat.succ_mul, hl, Nat.add_comm]
  rw [this, List.take_append, List.take_succ_cons]
  simp only [RepF]
  refine ⟨a, b.take (k * sz), ?_, h1, h3⟩
  rw [List.take_of_length_le (by omega)]
  congr 2
  omega
theorem RepF.get {w : World} {L : Nat → Nat} {sz : Nat} : ∀ {k : Nat} {es : List (List D)} {vs : List Value} {e : List D}, RepF w L es vs → (∀ e ∈ es, e.length = sz) → es[k]? = some e →
  RepVs w L e ((vs.drop (k * sz)).take sz)
 | _, [], _, _, _, _, hk => by simp at hk
 | 0, x :: es, vs, e, h, hs, hk => by
  simp at hk; subst hk
  simp only [RepF] at h
  obtain ⟨a, b, rfl, h1, h2⟩ := h
  have hl : a.length = sz := by rw [RepVs.length h1]; exact hs x (by simp)
  have : ((a ++ b).drop (0 * sz)).take sz = a := by simp [← hl]
  rw [this]; exact h1
 | k + 1, x :: es, vs, e, h, hs, hk => by
  simp only [RepF] at h
  obtain ⟨a, b, rfl, h1, h2⟩ := h
  have hl : a.length = sz := by rw [RepVs.length h1]; exact hs x (by simp)
  have h3 := RepF.get (k := k) h2 (fun e he => hs e (by simp [he])) (by simpa using hk)
  have : (k + 1) * sz = a.length + k * sz := by rw [Nat.succ_mul, hl, Nat.add_comm]
  rw [this, List.drop_append, List.drop_eq_nil_of_le (as := a) (i := a.length + k * sz) (by omega), Nat.add_sub_cancel_left]
  simpa using h3
theorem cellsAt.range {w : World} {b o : Nat} {vs : List Value} (h : cellsAt w b o vs) : w.rangeAt b o vs := fun j v hj => (h j v hj).1
theorem cellsAt.one {w : World} {b o : Nat} {vs : List Value} (h : cellsAt w b o vs) : ∀ u ∈ vs, u.oneCell' = true := by
 intro u hu
 obtain ⟨k, hk⟩ := List.getElem?_of_mem hu
 exact (h k u hk).2
theorem cellsAt.sub {w : World} {b o : Nat} {vs : List Value} (h : cellsAt w b o vs) (k m : Nat) : cellsAt w b (o + k) ((vs.drop k).take m) := by
 intro j u hj
 rw [List.getElem?_take] at hj
 split at hj
 ·rw [List.getElem?_drop] at hj
  have := h (k + j) u hj
  rwa [← Nat.add_assoc] at this
 ·cases hj
theorem cellsAt.drop {w : World} {b o : Nat} {vs : List Value} (h : cellsAt w b o vs) (k : Nat) : cellsAt w b (o + k) (vs.drop k) := by
 intro j u hj
 rw [List.getElem?_drop] at hj
 have := h (k + j) u hj
 rwa [← Nat.add_assoc] at this
theorem cellsAt.take {w : World} {b o : Nat} {vs : List Value} (h : cellsAt w b o vs) (m : Nat) : cellsAt w b o (vs.take m) := by
 intro j u hj
 rw [List.getElem?_take] at hj
 split at hj
 ·exact h j u hj
 ·cases hj
end Go.Abs
namespace Go.Abs
open Go
set_option linter.unusedVariables false
set_option linter.unusedSimpArgs false
def D.plain : D → Bool
 | .bool _ | .int _ _ | .str _ | .nilp | .nilf | .nili | .nilm | .nils => true
 | _ => false
def D.zv : D → Value
 | .bool b => .bool b
 | .int k n => .int k n
 | .str s => .string s
 | .nilp => .pointer none
 | .nilf => .nilFunc
 | .nili => .nilIface
 | .nilm => .map none
 | .nils => .slice none 0 0
 | _ => undef
theorem D.plain_rep {w : World} {L : Nat → Nat} : ∀ {x : D}, x.plain = true → RepV w L x x.zv ∧ x.zv.oneCell' = true := by
 intro x h
 cases x <;> first | (simp [D.plain] at h; done) | exact ⟨by simp [RepV, D.zv], rfl⟩
theorem RepVs.plain {w : World} {L : Nat → Nat} : ∀ {xs : List D}, xs.all D.plain = true → RepVs w L xs (xs.map D.zv) ∧ ∀ u ∈ xs.map D.zv, u.oneCell' = true
 | [], _ => by simp [RepVs]
 | x :: xs, h => by
  simp only [List.all_cons, Bool.and_eq_true] at h
  obtain ⟨h1, h2⟩ := D.plain_rep (w := w) (L := L) h.1
  obtain ⟨h3, h4⟩ := RepVs.plain (w := w) (L := L) h.2
  refine ⟨?_, ?_⟩
  ·simp only [List.map_cons, RepVs]; exact ⟨_, _, rfl, h1, h3⟩
  ·intro u hu
   simp only [List.map_cons, List.mem_cons] at hu
   rcases hu with rfl | hu
   ·exact h2
   ·exact h4 u hu
def KindFact (P : Program) (ti : TI) (d : TypeDesc) : Prop := match ti.kind with
 | 1 => ∃ fs, d = .struct fs ∧ fs.toList.mapM (fun f => (P.info? f.type).map fun i => (f.offset, i.size)) = some ti.fields ∧ ∀ p ∈ ti.fields, 0 < p.2 ∧ p.1 + p.2 ≤ ti.size
 | 2 => d = .slice ti.elem
 | 3 => d = .string
 | 4 => ∃ k, d = .int k
 | 5 => d = .bool
 | 7 => ∃ e, d = .pointer e
 | 8 => d = .interface #[]
 | 9 => ∃ a b c, d = .func a b c
 | 10 => ∃ a b, d = .map a b
 | _ => True
def zeroV (ti : TI) : Value := match ti.agg with
 | true => .agg (ti.zero.map D.zv).toArray
 | false => (ti.zero.map D.zv).headD undef
structure TyFact (P : Program) (t : TypeId) (ti : TI) : Prop where
 info : ∃ i z, P.info? t = some i ∧ i.size = ti.size ∧ i.bytes = ti.bytes ∧ i.zero = some z ∧ z.cells.toList = ti.zero.map D.zv
 plain : ti.zero.all D.plain = true
 len : ti.zero.length = ti.size
 one : ti.agg = false → ti.size = 1
 desc : ∃ d, P.underlying t = some d ∧ d.isRow = ti.agg ∧ KindFact P ti d
 mark : ti.mark.1 = 0 ∨ ti.mark.1 = t
 int : ∀ k, ti.int = some k → P.underlying t = some (.int k)
 val : ∃ i, P.info? t = some i ∧ i.zero = some (zeroV ti)
def TyOk (P : Program) (T : Nat → Option TI) : Prop := ∀ t ti, T t = some ti → TyFact P t ti
theorem cvD_rep {w : World} {L : Nat → Nat} {v : Value} {x : D} (hc : cvD v = some x) : RepV w L x v ∧ v.oneCell' = true := by
 unfold cvD at hc
 split at hc <;> simp at hc <;> subst hc <;> refine ⟨by simp [RepV], rfl⟩
theorem cvDs_rep {w : World} {L : Nat → Nat} : ∀ {vs : List Value} {xs : List D}, cvDs vs = some xs → RepVs w L xs vs ∧ ∀ u ∈ vs, u.oneCell' = true
 | [], xs, hc => by simp only [cvDs, Option.some.injEq] at hc; subst hc; simp [RepVs]
 | v :: vs, xs, hc => by
  simp only [cvDs] at hc
  cases h1 : cvD v with
  | none => simp [h1] at hc
  | some x =>
   cases h2 : cvDs vs with
   | none => simp [h1, h2] at hc
   | some ys =>
    simp only [h1, h2, Option.some.injEq] at hc; subst hc
    obtain ⟨r1, o1⟩ := cvD_rep (w := w) (L := L) h1
    obtain ⟨r2, o2⟩ := cvDs_rep (w := w) (L := L) h2
    refine ⟨?_, ?_⟩
    ·simp only [RepVs]; exact ⟨v, vs, rfl, r1, r2⟩
    ·intro u hu
     rcases List.mem_cons.1 hu with rfl | hu
     ·exact o1
     ·exact o2 u hu
theorem cv_rep {w : World} {h : Gh} : ∀ {v : Value} {a : AV}, cv v = some a → RepA w h a v := by
 intro v a hc
 unfold cv at hc
 split at hc
 ·split at hc
  ·rename_i ds hds
   simp only [Option.some.injEq] at hc; subst hc
   obtain ⟨r, o⟩ := cvDs_rep (w := w) (L := h.L) hds
   simp only [RepA, RepV]
   exact ⟨_, rfl, r, o⟩
  ·cases hc
 ·split at hc
  ·rename_i x hx
   simp only [Option.some.injEq] at hc; subst hc
   simp only [RepA]
   exact (cvD_rep hx).1
  ·cases hc
section
variable {P : Program} {T : Nat → Option TI} {w : World} {h : Gh}
def Tms (w : World) (h : Gh) (tm : Nat → Option AV) (a : Act) : Prop := ∀ t v, tm t = some v → RepA w h v (a.tmps.getD t undef)
theorem ev_rep {tm : Nat → Option AV} {a : Act} (ht : Tms w h tm a) : ∀ {x : Operand} {v : AV}, ev tm x = some v → RepA w h v (a.eval x) := by
 intro x v hx
 cases x with
 | tmp t => exact ht t v hx
 | const c => exact cv_rep hx
 | func f => simp only [ev, Option.some.injEq] at hx; subst hx; simp only [RepA, RepV]; exact ⟨#[], rfl, by simp [RepVs]⟩
 | global g => simp [ev] at hx
theorem evs_rep {tm : Nat → Option AV} {a : Act} (ht : Tms w h tm a) : ∀ {xs : List Operand} {vs : List AV}, evs tm xs = some vs → RepAs w h vs (xs.map a.eval)
 | [], vs, hx => by simp [evs] at hx; subst hx; simp [RepAs]
 | x :: xs, vs, hx => by
  simp only [evs] at hx
  cases h1 : ev tm x with
  | none => simp [h1] at hx
  | some v =>
   cases h2 : evs tm xs with
   | none => simp [h1, h2] at hx
   | some us =>
    simp only [h1, h2, Option.some.injEq] at hx; subst hx
    simp only [List.map_cons, RepAs]
    exact ⟨_, _, rfl, ev_rep ht h1, evs_rep ht h2⟩
theorem elems_rep : ∀ {a : AV} {es : List (List D)} {v : Value}, a.elems = some es → RepA w h a v →
  ∃ b n c, v = .slice b n c ∧ n = es.length := by
 intro a es v he hr
 cases a with
 | d x =>
  cases x <;> simp [AV.elems] at he <;> subst he <;> simp only [RepA, RepV] at hr
  ·subst hr; exact ⟨none, 0, 0, rfl, rfl⟩
  ·obtain ⟨b, n, c, vs, rfl, hn, _⟩ := hr; exact ⟨b, n, c, rfl, hn⟩
  ·obtain ⟨b, n, vs, rfl, hn, _⟩ := hr; exact ⟨b, n, n, rfl, hn⟩
  ·obtain ⟨ad, c, rfl⟩ := hr; exact ⟨some ad, 0, c, rfl, rfl⟩
 | own i sz es' =>
  simp [AV.elems] at he; subst he
  have := hr.own_sl
  simp only [RepV] at this
  obtain ⟨b, n, c, vs, rfl, hn, _⟩ := this
  exact ⟨b, n, c, rfl, hn⟩
 | _ => simp [AV.elems] at he
theorem row_rep {sz : Nat} : ∀ {a : AV} {es : List (List D)} {v : Value}, AV.row sz a = some es → RepA w h a v → es = [] ∧ v = .slice none 0 0 ∨ RepV w h.L (.sl sz es) v := by
 intro a es v he hr
 cases a with
 | d x =>
  cases x <;> simp [AV.row] at he
  ·subst he; simp only [RepA, RepV] at hr; exact .inl ⟨rfl, hr⟩
  ·obtain ⟨rfl, rfl⟩ := he; exact .inr (by simpa only [RepA] using hr)
  ·obtain ⟨rfl, rfl⟩ := he; exact .inr (RepV.sl_of_full (by simpa only [RepA] using hr))
  ·obtain ⟨rfl, rfl⟩ := he
   simp only [RepA, RepV] at hr
   obtain ⟨ad, c, rfl⟩ := hr
   right
   simp only [RepV]
   exact ⟨some ad, 0, c, [], rfl, rfl, Nat.zero_le _, by simp, by simp [RepF], .inl rfl⟩
 | own i z es' =>
  simp [AV.row] at he; obtain ⟨rfl, rfl⟩ := he
  exact .inr hr.own_sl
 | _ => simp [AV.row] at he
theorem row_rep' {sz : Nat} {a : AV} {es : List (List D)} {v : Value} (he : AV.row sz a = some es) (hr : RepA w h a v) : RepV w h.L (.sl sz es) v := by
 rcases row_rep he hr with ⟨rfl, rfl⟩ | h1
 ·simp only [RepV]; exact ⟨none, 0, 0, [], rfl, rfl, Nat.le_refl _, by simp, by simp [RepF], .inl rfl⟩
 ·exact h1
theorem refs_cases {w : World} {h : Gh} {sz n : Nat} {e : List D} {a : AV} {es : List (List D)} {v : Value} (hes : AV.refs sz a = some es) (he : es[n]? = some e) (hr : RepA w h a v) :
  (∃ b o ln c, v = .slice (some ⟨b, o, none⟩) ln c ∧ n < ln ∧ RepA w h (AV.elem n e a) (.pointer (some ⟨b, o + n * sz, none⟩))) ∨ (AV.row sz a = some es ∧ AV.elem n e a = .d (.at e)) := by
 have hlt : n < es.length := (List.getElem?_eq_some_iff.1 he).1
 cases a with
 | raw o k i z xs =>
  cases o with
  | some m => simp [AV.refs, AV.row] at hes
  | none =>
   simp only [AV.refs] at hes
   split at hes
   case isFalse => cases hes
   rename_i hz
   cases hes
   have hz : z = sz := by simpa using hz
   subst hz
   left
   simp only [RepA] at hr
   rcases hr with ⟨_, hk, hr⟩ | ⟨_, h2, _⟩ | ⟨b, ln, c, vs, cc, ty, hv, hm, hn, hc, hkn, hs, hf, hg, hL, hh, hrm, hcells⟩
   ·simp only [RepV] at hr
    obtain ⟨ad, ln, vs, rfl, hn, _, _, hm⟩ := hr
    rcases hm with hm | ⟨b, o, rfl, _⟩
    ·omega
    ·refine ⟨b, o, ln, ln, rfl, by omega, ?_⟩
     simp only [AV.elem, RepA]
     exact .inr (.inl ⟨hk, rfl, _, _, rfl⟩)
   ·cases h2
   ·subst hv
    refine ⟨b, 0, ln, c, rfl, by omega, ?_⟩
    simp only [AV.elem, RepA]
    exact .inr (.inr ⟨b, ln, c, vs, cc, ty, by simp, by intro m hm; cases hm; omega, hn, hc, hkn, hs, hf, hg, hL, hh, hrm, hcells⟩)
 | old o z m =>
  cases o with
  | some m => simp [AV.refs, AV.row] at hes
  | none =>
   simp only [AV.refs] at hes
   split at hes
   case isFalse => cases hes
   cases hes
   left
   simp only [List.length_replicate] at hlt
   simp only [RepA, OldRef] at hr
   obtain ⟨ad, c, rfl, hm⟩ := hr
   rcases hm with hm | ⟨b, off, rfl⟩
   ·omega
   ·refine ⟨b, off, m, c, rfl, hlt, ?_⟩
    simp only [AV.elem, RepA, OldRef]
    exact ⟨_, _, rfl⟩
 | _ => exact .inr ⟨hes, rfl⟩
theorem intOf_rep : ∀ {a : AV} {n : Int} {v : Value}, intOf a = some n → RepA w h a v → ∃ k, v = .int k n := by
 intro a n v he hr
 cases a with
 | d x => cases x <;> simp [intOf] at he; subst he; simp only [RepA, RepV] at hr; exact ⟨_, hr⟩
 | _ => simp [intOf] at he
theorem val_rep : ∀ {x : D} {u v : Value}, x.val = some u → RepV w h.L x v → v = u := by
 intro x u v hx hr
 cases x <;> simp [D.val] at hx <;> subst hx <;> simpa only [RepV] using hr
theorem semV_run {s : Sem Value} {a : AV} (hs : semV s = some a) : ∃ v, s.run P w = .ok v w ∧ RepA w h a v := by
 cases s with
 | pure v =>
  simp only [semV] at hs
  cases hv : vD v with
  | none => simp [hv] at hs
  | some x =>
   simp only [hv, Option.some.injEq] at hs; subst hs
   refine ⟨v, rfl, ?_⟩
   cases v <;> simp [vD] at hv <;> subst hv <;> simp [RepA, RepV]
 | _ => simp [semV] at hs
theorem eqGuard_plain {op : BinOp} {t : TypeId} {x y : Operand} {a b : D} {u v : Value} (hu : a.val = some u) (hv : b.val = some v) : (eqGuard op t x y u v).run P w = .ok () w := by
 cases a <;> simp [D.val] at hu <;> subst hu <;> cases b <;> simp [D.val] at hv <;> subst hv <;> simp [eqGuard] <;> split <;> rfl
theorem foldl_set (off : Nat) : ∀ (us : List Value) (k : Nat) (acc : Array Value), off + k + us.length ≤ acc.size →
  ((us.zipIdx k).foldl (fun cs (c, j) => cs.setIfInBounds (off + j) c) acc).toList = acc.toList.take (off + k) ++ us ++ acc.toList.drop (off + k + us.length)
 | [], k, acc, hh => by simp
 | u :: us, k, acc, hh => by
  simp only [List.length_cons] at hh
  simp only [List.zipIdx_cons, List.foldl_cons]
  rw [foldl_set off us (k + 1) (acc.setIfInBounds (off + k) u) (by simp; omega)]
  simp only [Array.toList_setIfInBounds]
  rw [show off + (k + 1) = off + k + 1 from rfl]
  have hlt : off + k < acc.toList.length := by simp; omega
  rw [List.take_set, List.drop_set, List.take_succ_eq_append_getElem hlt, List.set_append_right _ _ (by simp; omega)]
  have e1 : off + k - (acc.toList.take (off + k)).length = 0 := by simp; omega
  rw [e1, if_pos (by omega)]
  simp only [List.set_cons_zero, List.length_cons, List.append_assoc, List.cons_append, List.nil_append]
  rw [show off + k + 1 + us.length = off + k + (us.length + 1) by omega]
theorem fill_cells {fields : List (Nat × Nat)} {e : Operand → Option AV} {ea : Operand → Value} (he : ∀ x v, e x = some v → RepA w h v (ea x)) :
  ∀ (parts : List (Nat × Operand)) (cs cs' : List D) (vs : Array Value), buildCells fields e parts cs = some cs' → RepVs w h.L cs vs.toList → (∀ u ∈ vs.toList, u.oneCell' = true) →
   ∃ vs', Instr.fill (fields.toArray[·]?) vs (parts.map fun p => (p.1, ea p.2)) = some vs' ∧ RepVs w h.L cs' vs'.toList ∧ (∀ u ∈ vs'.toList, u.oneCell' = true)
 | [], cs, cs', vs, hb, hr, h1 => by
  simp only [buildCells, Option.some.injEq] at hb; subst hb
  exact ⟨vs, by simp [Instr.fill], hr, h1⟩
 | (i, x) :: rest, cs, cs', vs, hb, hr, h1 => by
  simp only [buildCells] at hb
  cases hx : e x with
  | none => simp [hx] at hb
  | some a =>
   simp only [hx] at hb
   cases hd : a.data with
   | none => simp [hd] at hb
   | some v =>
    simp only [hd] at hb
    cases hf : fields[i]? with
    | none => simp [hf] at hb
    | some p =>
     obtain ⟨off, size⟩ := p
     simp only [hf] at hb
     split at hb
     ·rename_i hc
      simp only [Bool.and_eq_true, Nat.beq_eq, Nat.ble_eq] at hc
      obtain ⟨hc1, hc2⟩ := hc
      have hrep : RepV w h.L v (ea x) := (he x a hx).data a v _ hd
      obtain ⟨g1, g2⟩ := hrep.cells
      have hl1 : (ea x).cells.toList.length = v.cells.length := g1.length
      have hl2 : vs.toList.length = cs.length := hr.length
      have hsz : (ea x).cells.size = v.cells.length := by simpa using hl1
      have hvsz : vs.size = cs.length := by simpa using hl2
      have hk := foldl_set off (ea x).cells.toList 0 vs (by simp; omega)
      simp only [Nat.add_zero] at hk
      have hfill : Instr.fill (fields.toArray[·]?) vs (((i, x) :: rest).map fun p => (p.1, ea p.2)) =
        Instr.fill (fields.toArray[·]?) (((ea x).cells.zipIdx.foldl (fun cs (c, j) => cs.setIfInBounds (off + j) c) vs)) (rest.map fun p => (p.1, ea p.2)) := by
       simp only [List.map_cons, Instr.fill]
       have : (fields.toArray)[i]? = some (off, size) := by simpa using hf
       rw [this]
       simp only []
       rw [if_neg]
       simp
       omega
      rw [hfill]
      have hz : ((ea x).cells.zipIdx.foldl (fun cs (c, j) => cs.setIfInBounds (off + j) c) vs) = (((ea x).cells.toList.zipIdx 0).foldl (fun cs (c, j) => cs.setIfInBounds (off + j) c) vs) := by
       rw [← Array.foldl_toList]; simp
      rw [hz]
      refine fill_cells he rest (fillCells cs off v.cells) cs' _ hb ?_ ?_
      ·rw [hk, hl1]
       unfold fillCells
       exact (hr.take.append g1).append hr.drop
      ·rw [hk]
       intro u hu
       simp only [List.mem_append] at hu
       rcases hu with (hu | hu) | hu
       ·exact h1 u (List.mem_of_mem_take hu)
       ·exact g2 u hu
       ·exact h1 u (List.mem_of_mem_drop hu)
     ·cases hb
theorem opB_run {f : Value → Value → Sem Value} {a b v : AV} {u1 u2 : Value} (hb : opB f a b = some v) (h1 : RepA w h a u1) (h2 : RepA w h b u2) :
  ∃ u, (f u1 u2).run P w = .ok u w ∧ RepA w h v u := by
 unfold opB at hb
 split at hb
 ·rename_i x y
  simp only [RepA] at h1 h2
  cases hx : x.val with
  | none => simp [hx] at hb
  | some p =>
   cases hy : y.val with
   | none => simp [hx, hy] at hb
   | some q =>
    simp only [hx, hy] at hb
    rw [val_rep hx h1, val_rep hy h2]
    exact semV_run hb
 ·cases hb
theorem optI_run {tm : Nat → Option AV} {a : Act} (ht : Tms w h tm a) {x : Option Operand} {r : Option Int} (hx : optI (ev tm) x = some r) :
  (x = none ∧ r = none) ∨ ∃ y k n, x = some y ∧ a.eval y = .int k n ∧ r = some n := by
 cases x with
 | none => simp [optI] at hx; exact .inl ⟨rfl, hx.symm⟩
 | some y =>
  simp only [optI] at hx
  cases hy : ev tm y with
  | none => simp [hy] at hx
  | some b =>
   simp only [hy] at hx
   cases hn : intOf b with
   | none => simp [hn] at hx
   | some n =>
    simp only [hn, Option.some.injEq] at hx; subst hx
    obtain ⟨k, hk⟩ := intOf_rep hn (ev_rep ht hy)
    exact .inr ⟨y, k, n, rfl, hk, rfl⟩
theorem TyFact.size {t : TypeId} {ti : TI} (hf : TyFact P t ti) (w : World) : (sizeOf t).run P w = .ok ti.size w := by
 obtain ⟨i, z, hi, hs, _⟩ := hf.info
 simp [sizeOf, typeInfo, hi, hs]
theorem TyFact.sizeMap {t : TypeId} {ti : TI} (hf : TyFact P t ti) : (P.info? t).map (·.size) = some ti.size := by
 obtain ⟨i, z, hi, hs, _⟩ := hf.info
 simp [hi, hs]
theorem TyFact.und {t : TypeId} {ti : TI} (hf : TyFact P t ti) (hk : ti.kind = 2) : P.underlying t = some (.slice ti.elem) := by
 obtain ⟨d, hd, _, hkf⟩ := hf.desc
 unfold KindFact at hkf
 rw [hk] at hkf
 simp only at hkf
 rw [hd, hkf]
theorem TyFact.und3 {t : TypeId} {ti : TI} (hf : TyFact P t ti) (hk : ti.kind = 3) : P.underlying t = some .string := by
 obtain ⟨d, hd, _, hkf⟩ := hf.desc
 unfold KindFact at hkf
 rw [hk] at hkf
 simp only at hkf
 rw [hd, hkf]
theorem TyFact.und4 {t : TypeId} {ti : TI} (hf : TyFact P t ti) (hk : ti.kind = 4) : ∃ k, P.underlying t = some (.int k) := by
 obtain ⟨d, hd, _, hkf⟩ := hf.desc
 unfold KindFact at hkf
 rw [hk] at hkf
 simp only at hkf
 obtain ⟨k, rfl⟩ := hkf
 exact ⟨k, hd⟩
theorem TyFact.und1 {t : TypeId} {ti : TI} (hf : TyFact P t ti) (hk : ti.kind = 1) :
  ∃ fs, P.underlying t = some (.struct fs) ∧ fs.toList.mapM (fun f => (P.info? f.type).map fun i => (f.offset, i.size)) = some ti.fields ∧ ∀ p ∈ ti.fields, 0 < p.2 ∧ p.1 + p.2 ≤ ti.size := by
 obtain ⟨d, hd, _, hkf⟩ := hf.desc
 unfold KindFact at hkf
 rw [hk] at hkf
 simp only at hkf
 obtain ⟨fs, rfl, h2, h3⟩ := hkf
 exact ⟨fs, hd, h2, h3⟩
theorem mapM_get {α β : Type} {f : α → Option β} : ∀ {l : List α} {r : List β} {k : Nat} {y : β}, l.mapM f = some r → r[k]? = some y → ∃ x, l[k]? = some x ∧ f x = some y
 | [], r, k, y, hm, hk => by simp at hm; subst hm; simp at hk
 | x :: l, r, k, y, hm, hk => by
  simp only [List.mapM_cons, Option.bind_eq_bind, Option.pure_def] at hm
  cases h1 : f x with
  | none => simp [h1] at hm
  | some z =>
   cases h2 : l.mapM f with
   | none => simp [h1, h2] at hm
   | some zs =>
    simp [h1, h2] at hm; subst hm
    cases k with
    | zero => simp at hk; subst hk; exact ⟨x, rfl, h1⟩
    | succ k => simpa using mapM_get h2 (by simpa using hk)
theorem run_fieldPlace {t : TypeId} {b o : Nat} {f : Field} {i : TypeInfo} {size : Nat} (hi : P.info? f.type = some i) (hs : i.size = size) (h0 : 0 < size) :
  (fieldPlace ⟨b, o, none⟩ f).run P w = .ok ⟨b, o + f.offset, none⟩ w := by
 have : i.size ≠ 0 := by omega
 simp [fieldPlace, sizeOf, typeInfo, hi, this, Addr.add_mid]
theorem run_fieldAt {t : TypeId} {ti : TI} (hf : TyFact P t ti) (hk : ti.kind = 1) {k off size : Nat} (hg : ti.fields[k]? = some (off, size)) (b o : Nat) :
  (Instr.fieldAt t (.pointer (some ⟨b, o, none⟩)) k).run P w = .ok (.pointer (some ⟨b, o + off, none⟩)) w := by
 obtain ⟨fs, hu, hm, hpos⟩ := hf.und1 hk
 obtain ⟨f, hf1, hf2⟩ := mapM_get hm hg
 cases hi : P.info? f.type with
 | none => simp [hi] at hf2
 | some i =>
  simp only [hi, Option.map_some, Option.some.injEq, Prod.mk.injEq] at hf2
  obtain ⟨rfl, rfl⟩ := hf2
  have h0 := (hpos _ (List.mem_of_getElem? hg)).1
  have hfs : fs[k]? = some f := by simpa using hf1
  have := run_fieldPlace (P := P) (w := w) (t := t) (b := b) (o := o) hi rfl h0
  simp [Instr.fieldAt, run_underlying hu, hfs, Instr.sureAddr, this]
theorem run_slice_vals {t e : TypeId} (hu : P.underlying t = some (.slice e)) {size : Nat} (hs : (sizeOf e).run P w = .ok size w) (b : Option Addr) (n c : Nat)
  {lo hi mx : Option Value} {l h m : Nat} (hl : (lo = none ∧ l = 0) ∨ ∃ k, lo = some (.int k l)) (hh : (hi = none ∧ h = n ∧ mx = none) ∨ ∃ k, hi = some (.int k h))
  (hm : (mx = none ∧ m = c) ∨ ∃ k, mx = some (.int k m)) (h1 : l ≤ h) (h2 : h ≤ m) (h3 : m ≤ c) :
  (Instr.sliceAt t (.slice b n c) lo hi mx).run P w = .ok (.slice (if m = l then b else b.map (·.add (l * size))) (h - l) (m - l)) w := by
 rcases hl with ⟨rfl, rfl⟩ | ⟨kl, rfl⟩ <;> rcases hh with ⟨rfl, rfl, rfl⟩ | ⟨kh, rfl⟩ <;> rcases hm with ⟨hm1, rfl⟩ | ⟨km, hm1⟩ <;> (first | subst hm1 | cases hm1) <;>
  simp [Instr.sliceAt, Instr.slice, Instr.sliceBounds, run_underlying hu, hs, run_sliceBound, h1, h2, h3, Nat.le_trans h2 h3, Nat.le_trans h1 h2]
theorem sliceD_rep {sz : Nat} {t e : TypeId} (hu : P.underlying t = some (.slice e)) (hs : (sizeOf e).run P w = .ok sz w) {a v : AV} {lo hi mx : Option Int} {va : Value}
    (hd : sliceD sz a lo hi mx = some v) (hr : RepA w h a va) {vlo vhi vmx : Option Value}
    (hlo : (vlo = none ∧ lo = none) ∨ ∃ k n, vlo = some (.int k n) ∧ lo = some n) (hhi : (vhi = none ∧ hi = none) ∨ ∃ k n, vhi = some (.int k n) ∧ hi = some n)
    (hmx : (vmx = none ∧ mx = none) ∨ ∃ k n, vmx = some (.int k n) ∧ mx = some n) :
    ∃ u, (Instr.sliceAt t va vlo vhi vmx).run P w = .ok u w ∧ RepA w h v u := by
  unfold sliceD at hd
  split at hd
  case isTrue => cases hd
  rename_i hmh
  have hmh : hi = none → mx = none := by
    intro e; subst e
    cases mx with
    | none => rfl
    | some m => simp at hmh
  split at hd
  ·
    split at hd
    · rename_i hc
      simp only [Option.some.injEq] at hd; subst hd
      simp only [RepA, RepV] at hr; subst hr
      refine ⟨.slice none 0 0, ?_, by simp [RepA, RepV]⟩
      have := run_slice_vals (w := w) hu hs none 0 0 (lo := vlo) (hi := vhi) (mx := vmx) (l := 0) (h := 0) (m := 0)
        (by rcases hlo with ⟨rfl, rfl⟩ | ⟨k, n, rfl, rfl⟩
            · exact .inl ⟨rfl, rfl⟩
            · simp only [Option.getD_some] at hc; exact .inr ⟨k, by rw [hc.1]; rfl⟩)
        (by rcases hhi with ⟨rfl, rfl⟩ | ⟨k, n, rfl, rfl⟩
            · refine .inl ⟨rfl, rfl, ?_⟩
              rcases hmx with ⟨rfl, _⟩ | ⟨k, n, _, h2⟩
              · rfl
              · rw [hmh rfl] at h2; cases h2
            · simp only [Option.getD_some] at hc; exact .inr ⟨k, by rw [hc.2.1]; rfl⟩)
        (by rcases hmx with ⟨rfl, rfl⟩ | ⟨k, n, rfl, rfl⟩
            · exact .inl ⟨rfl, rfl⟩
            · simp only [Option.getD_some] at hc; exact .inr ⟨k, by rw [hc.2.2]; rfl⟩)
        (Nat.le_refl _) (Nat.le_refl _) (Nat.le_refl _)
      simpa using this
    · cases hd
  · rename_i hnn
    cases he : AV.row sz a with
    | none => simp [he] at hd
    | some es =>
      simp only [he] at hd
      have hrep := row_rep' he hr
      simp only [RepV] at hrep
      obtain ⟨ad, n, c, vs, rfl, hn, hc, hus, hf, hm⟩ := hrep
      cases mx with
      | none =>
        simp only at hd
        split at hd
        · rename_i hb
          simp only [Option.some.injEq] at hd; subst hd
          obtain ⟨hb1, hb2, hb3⟩ := hb
          obtain ⟨l, hl⟩ := Int.eq_ofNat_of_zero_le hb1
          obtain ⟨hh, hhq⟩ := Int.eq_ofNat_of_zero_le (Int.le_trans hb1 hb2)
          rw [hl, hhq] at hb2
          rw [hhq] at hb3
          rw [hl, hhq]
          simp only [Int.toNat_natCast]
          have hle1 : l ≤ hh := by omega
          have hle2 : hh ≤ es.length := by omega
          refine ⟨_, run_slice_vals (w := w) hu hs ad n c (lo := vlo) (hi := vhi) (mx := vmx) (l := l) (h := hh) (m := c) ?_ ?_ ?_ hle1 (by omega) (Nat.le_refl _), ?_⟩
          · rcases hlo with ⟨rfl, rfl⟩ | ⟨k, q, rfl, rfl⟩
            · simp at hl; exact .inl ⟨rfl, by omega⟩
            · simp at hl; exact .inr ⟨k, by rw [hl]⟩
          · rcases hhi with ⟨rfl, rfl⟩ | ⟨k, q, rfl, rfl⟩
            · simp at hhq
              refine .inl ⟨rfl, by omega, ?_⟩
              rcases hmx with ⟨rfl, _⟩ | ⟨_, _, _, h2⟩
              · rfl
              · cases h2
            · simp at hhq; exact .inr ⟨k, by rw [hhq]⟩
          · rcases hmx with ⟨rfl, _⟩ | ⟨_, _, _, h2⟩
            · exact .inl ⟨rfl, rfl⟩
            · cases h2
          · simp only [RepA, RepV]
            refine ⟨_, hh - l, c - l, (vs.take (hh * sz)).drop (l * sz), rfl, by simp; omega, by omega, ?_, ?_, ?_⟩
            · intro e he'; exact hus e (List.mem_of_mem_take (List.mem_of_mem_drop he'))
            · exact (hf.take hus).drop (fun e he' => hus e (List.mem_of_mem_take he'))
            · by_cases h0 : hh - l = 0
              · exact .inl h0
              · rcases hm with hm | ⟨b, o, rfl, hL, hcells⟩
                · omega
                · refine .inr ⟨b, o + l * sz, ?_, ?_, ?_⟩
                  · rw [if_neg (by omega)]
                    simp [Addr.add_mid]
                  · have : (l + (hh - l)) * sz ≤ n * sz := Nat.mul_le_mul_right _ (by omega)
                    rw [Nat.add_mul] at this
                    omega
                  · exact (hcells.take _).drop _
        · cases hd
      | some m =>
        simp only at hd
        split at hd
        · rename_i hb
          simp only [Option.some.injEq] at hd; subst hd
          obtain ⟨hb1, hb2, hb3, hb4⟩ := hb
          have hmh2 : hi = some m := by
            cases hi with
            | none => exact absurd (hmh rfl) (by simp)
            | some q => simp at hb3; rw [hb3]
          subst hmh2
          simp only [Option.getD_some] at hb2 hb3 ⊢
          obtain ⟨l, hl⟩ := Int.eq_ofNat_of_zero_le hb1
          obtain ⟨hh, hhq⟩ := Int.eq_ofNat_of_zero_le (Int.le_trans hb1 hb2)
          subst hhq
          rw [hl] at hb2 ⊢
          simp only [Int.toNat_natCast]
          have hle1 : l ≤ hh := by omega
          have hle2 : hh ≤ es.length := by omega
          refine ⟨_, run_slice_vals (w := w) hu hs ad n c (lo := vlo) (hi := vhi) (mx := vmx) (l := l) (h := hh) (m := hh) ?_ ?_ ?_ hle1 (Nat.le_refl _) (by omega), ?_⟩
          · rcases hlo with ⟨rfl, rfl⟩ | ⟨k, q, rfl, rfl⟩
            · simp at hl; exact .inl ⟨rfl, by omega⟩
            · simp at hl; exact .inr ⟨k, by rw [hl]⟩
          · rcases hhi with ⟨_, h2⟩ | ⟨k, q, rfl, h2⟩
            · cases h2
            · simp at h2; exact .inr ⟨k, by rw [h2]⟩
          · rcases hmx with ⟨_, h2⟩ | ⟨k, q, rfl, h2⟩
            · cases h2
            · simp at h2; exact .inr ⟨k, by rw [h2]⟩
          · simp only [RepA, RepV]
            refine ⟨_, hh - l, (vs.take (hh * sz)).drop (l * sz), rfl, by simp; omega, ?_, ?_, ?_⟩
            · intro e he'; exact hus e (List.mem_of_mem_take (List.mem_of_mem_drop he'))
            · exact (hf.take hus).drop (fun e he' => hus e (List.mem_of_mem_take he'))
            · by_cases h0 : hh - l = 0
              · exact .inl h0
              · rcases hm with hm | ⟨b, o, rfl, hL, hcells⟩
                · omega
                · refine .inr ⟨b, o + l * sz, ?_, ?_, ?_⟩
                  · rw [if_neg (by omega)]
                    simp [Addr.add_mid]
                  · have : (l + (hh - l)) * sz ≤ n * sz := Nat.mul_le_mul_right _ (by omega)
                    rw [Nat.add_mul] at this
                    omega
                  · exact (hcells.take _).drop _
        · cases hd
theorem opLen_rep {k : Nat} {a v : AV} {va : Value} (hl : opLen k a = some v) (hr : RepA w h a va) :
  (k = 3 ∧ ∃ s, va = .string s ∧ v = .d (.int .i64 s.size)) ∨ (k = 2 ∧ ∃ b n c, va = .slice b n c ∧ v = .d (.int .i64 n)) := by
 unfold opLen at hl
 split at hl
 ·cases he : AV.elems a with
  | none => simp [he] at hl
  | some es =>
   simp only [he, Option.some.injEq] at hl; subst hl
   obtain ⟨b, n, c, rfl, hn⟩ := elems_rep he hr
   exact .inr ⟨rfl, b, n, c, rfl, by rw [hn]⟩
 ·split at hl
  ·rename_i s
   simp only [Option.some.injEq] at hl; subst hl
   simp only [RepA, RepV] at hr; subst hr
   exact .inl ⟨rfl, s, rfl, rfl⟩
  ·cases hl
 ·cases hl
theorem lenA_run (hT : TyOk P T) {tm : Nat → Option AV} {a : Act} (ht : Tms w h tm a) {c : Call} {v : AV} {ty : TypeId} (hv : lenA T (ev tm) c = some v) :
  ∃ u, (do let d ← resolve a.eval c ty; invoke d.target d.args : Sem Next).run P w = .ok (.value u) w ∧ RepA w h v u := by
 obtain ⟨callee, args, argTypes⟩ := c
 unfold lenA at hv
 split at hv
 case isFalse => cases hv
 rename_i hlen
 split at hv
 ·rename_i hext
  have hcl : callee = .builtin .len := by
   revert hlen hext
   cases callee with
   | builtin b => cases b <;> simp [isLen, extOp]
   | _ => simp [isLen]
  subst hcl
  split at hv
  ·rename_i x t rest hargs htys
   have hargs' : args = #[x] := by simpa using congrArg List.toArray hargs
   have htys' : argTypes = (t :: rest).toArray := by simpa using congrArg List.toArray htys
   subst hargs' htys'
   cases hti : T t with
   | none => simp [hti] at hv
   | some ti =>
    simp only [hti] at hv
    cases hx : ev tm x with
    | none => simp [hx] at hv
    | some ax =>
     simp only [hx] at hv
     have h1 := ev_rep ht hx
     have hf := hT t ti hti
     rcases opLen_rep hv h1 with ⟨hk, s, hs, rfl⟩ | ⟨hk, b, n, cp, hs, rfl⟩
     ·have hu := hf.und3 hk
      refine ⟨.int .i64 s.size, ?_, by simp [RepA, RepV]⟩
      simp [resolve, invoke, builtin, hs, Builtin.len_, run_underlying hu, goInt]
     ·have hu := hf.und hk
      refine ⟨.int .i64 n, ?_, by simp [RepA, RepV]⟩
      simp [resolve, invoke, builtin, hs, Builtin.len_, run_underlying hu, goInt]
  ·cases hv
 ·rename_i mx hext
  have hcl : (callee = .builtin .max ∧ mx = true) ∨ (callee = .builtin .min ∧ mx = false) := by
   revert hlen hext
   cases callee with
   | builtin b => cases b <;> simp [isLen, extOp]
   | _ => simp [isLen]
  split at hv
  ·rename_i x y hargs
   have hargs' : args = #[x, y] := by simpa using congrArg List.toArray hargs
   subst hargs'
   cases hx : ev tm x with
   | none => simp [hx] at hv
   | some ax =>
    cases hy : ev tm y with
    | none => simp [hx, hy] at hv
    | some ay =>
     simp only [hx, hy] at hv
     have h1 := ev_rep ht hx
     have h2 := ev_rep ht hy
     unfold extA at hv
     split at hv
     ·rename_i k m l n
      simp only [Option.some.injEq] at hv; subst hv
      simp only [RepA, RepV] at h1 h2
      refine ⟨.int k (extI mx m n), ?_, by simp [RepA, RepV]⟩
      rcases hcl with ⟨rfl, rfl⟩ | ⟨rfl, rfl⟩
      ·simp [resolve, invoke, builtin, h1, h2, Builtin.max_, Builtin.max2, extI]
      ·simp [resolve, invoke, builtin, h1, h2, Builtin.min_, Builtin.min2, extI]
     ·cases hv
  ·cases hv
theorem nilQ_rep {k : Nat} {a : AV} {r : Bool} {v : Value} (hq : nilQ k a = some r) (hr : RepA w h a v) :
  (k = 2 ∧ ∃ b n c, v = .slice b n c ∧ b.isNone = r) ∨ (k = 7 ∧ ∃ b, v = .pointer b ∧ b.isNone = r) ∨ (k = 9 ∧ ((r = true ∧ v = .nilFunc) ∨ (r = false ∧ ∃ f x y, v = .func f x y))) ∨ (k = 10 ∧ r = true ∧ v = .map none) ∨ (k = 8 ∧ ((r = true ∧ v = .nilIface) ∨ (r = false ∧ ∃ t u, v = .iface t u))) := by
 unfold nilQ at hq
 split at hq
 ·left
  refine ⟨rfl, ?_⟩
  split at hq
  ·cases hq
   simp only [RepA, RepV] at hr
   exact ⟨_, _, _, hr, rfl⟩
  ·cases hq
   simp only [RepA, RepV] at hr
   obtain ⟨ad, c, rfl⟩ := hr
   exact ⟨_, _, _, rfl, rfl⟩
  ·split at hq
   ·rename_i e es he
    cases hq
    have big : ∀ {sz : Nat} {es' : List (List D)}, RepV w h.L (.sl sz es') v → es' = e :: es → ∃ b n c, v = .slice b n c ∧ b.isNone = false := by
     intro sz es' hv hes
     simp only [RepV] at hv
     obtain ⟨b, n, c, vs, rfl, hn, _, _, _, hm⟩ := hv
     rcases hm with hm | ⟨b', o, rfl, _⟩
     ·rw [hes] at hn; simp at hn; omega
     ·exact ⟨_, _, _, rfl, rfl⟩
    cases a with
    | d x =>
     cases x <;> simp [AV.elems] at he
     ·exact big (by simpa only [RepA] using hr) he
     ·simp only [RepA] at hr; exact big hr.sl_of_full he
    | own i sz es' =>
     simp [AV.elems] at he
     exact big hr.own_sl he
    | _ => simp [AV.elems] at he
   ·cases hq
 ·right; left
  refine ⟨rfl, ?_⟩
  split at hq <;> cases hq
  ·simp only [RepA, RepV] at hr; exact ⟨_, hr, rfl⟩
  ·simp only [RepA, RepV] at hr; obtain ⟨b, o, vs, rfl, _⟩ := hr; exact ⟨_, rfl, rfl⟩
  ·simp only [RepA] at hr; obtain ⟨b, _, rfl⟩ := hr; exact ⟨_, rfl, rfl⟩
 ·right; right; left
  refine ⟨rfl, ?_⟩
  split at hq <;> cases hq
  ·simp only [RepA, RepV] at hr; exact .inl ⟨rfl, hr⟩
  ·simp only [RepA, RepV] at hr; obtain ⟨cv, rfl, _⟩ := hr; exact .inr ⟨rfl, _, _, _, rfl⟩
  ·simp only [RepA] at hr; obtain ⟨cv, rfl, _⟩ := hr; exact .inr ⟨rfl, _, _, _, rfl⟩
  ·simp only [RepA] at hr; exact .inr ⟨rfl, _, _, _, hr⟩
 ·right; right; right; left
  split at hq <;> cases hq
  simp only [RepA, RepV] at hr; exact ⟨rfl, rfl, hr⟩
 ·right; right; right; right
  refine ⟨rfl, ?_⟩
  split at hq <;> cases hq
  ·simp only [RepA, RepV] at hr; exact .inl ⟨rfl, hr⟩
  ·simp only [RepA, RepV] at hr; obtain ⟨u, rfl, _⟩ := hr; exact .inr ⟨rfl, _, _, rfl⟩
 ·cases hq
theorem equal_run' (m : Nat) {t : TypeId} {d : TypeDesc} (hu : P.underlying t = some d) {u v : Value} {r : Bool} (h : d = .bool ∧ (∃ x y, u = .bool x ∧ v = .bool y ∧ r = (x == y)) ∨
   (∃ e, d = .slice e) ∧ (∃ a n c a' n' c', u = .slice a n c ∧ v = .slice a' n' c' ∧ ((a = none ∧ r = a'.isNone) ∨ (a' = none ∧ r = a.isNone))) ∨
   (∃ e, d = .pointer e) ∧ (∃ a a', u = .pointer a ∧ v = .pointer a' ∧ ((a = none ∧ r = a'.isNone) ∨ (a' = none ∧ r = a.isNone))) ∨
   (∃ a b c, d = .func a b c) ∧ ((u = .nilFunc ∧ v = .nilFunc ∧ r = true) ∨ (u = .nilFunc ∧ (∃ f x y, v = .func f x y) ∧ r = false) ∨ (v = .nilFunc ∧ (∃ f x y, u = .func f x y) ∧ r = false)) ∨
   ((∃ a b, d = .map a b) ∧ u = .map none ∧ v = .map none ∧ r = true) ∨
   (d = .interface #[] ∧ ((u = .nilIface ∧ v = .nilIface ∧ r = true) ∨ (u = .nilIface ∧ (∃ t x, v = .iface t x) ∧ r = false) ∨ (v = .nilIface ∧ (∃ t x, u = .iface t x) ∧ r = false)))) : (Op.equalIn (m + 1) t u v).run P w = .ok r w := by
 rcases h with ⟨rfl, x, y, rfl, rfl, rfl⟩ | ⟨⟨e, rfl⟩, a, n, c, a', n', c', rfl, rfl, hr⟩ | ⟨⟨e, rfl⟩, a, a', rfl, rfl, hr⟩ | ⟨⟨a, b, c, rfl⟩, hr⟩ | ⟨⟨a, b, rfl⟩, rfl, rfl, rfl⟩ | ⟨rfl, hr⟩
 ·simp [Op.equalIn, run_underlying hu]
 ·rcases hr with ⟨rfl, rfl⟩ | ⟨rfl, rfl⟩
  ·simp [Op.equalIn, run_underlying hu]
  ·cases a <;> simp [Op.equalIn, run_underlying hu]
 ·rcases hr with ⟨rfl, rfl⟩ | ⟨rfl, rfl⟩
  ·simp [Op.equalIn, run_underlying hu]
  ·cases a <;> simp [Op.equalIn, run_underlying hu]
 ·rcases hr with ⟨rfl, rfl, rfl⟩ | ⟨rfl, ⟨f, x, y, rfl⟩, rfl⟩ | ⟨rfl, ⟨f, x, y, rfl⟩, rfl⟩ <;> simp [Op.equalIn, run_underlying hu]
 ·simp [Op.equalIn, run_underlying hu]
 ·rcases hr with ⟨rfl, rfl, rfl⟩ | ⟨rfl, ⟨f, x, rfl⟩, rfl⟩ | ⟨rfl, ⟨f, x, rfl⟩, rfl⟩ <;> simp [Op.equalIn, run_underlying hu]
theorem eqV_run (hT : TyOk P T) {t : TypeId} {a b : AV} {u v : Value} {r : Bool} (he : eqV T t a b = some r) (h1 : RepA w h a u) (h2 : RepA w h b v) :
  (Op.equal t u v).run P w = .ok r w ∧ (∀ op x y, (eqGuard op t x y u v).run P w = .ok () w) ∧ binOp .eql t u v = (do pure (.bool (← Op.equal t u v))) ∧ binOp .neq t u v = (do pure (.bool (!(← Op.equal t u v)))) := by
 have fin : ∀ {d : TypeDesc}, P.underlying t = some d → _ → (Op.equal t u v).run P w = .ok r w := fun {d} hu h => equal_run' (P := P) (w := w) 9999 (u := u) (v := v) (r := r) hu h
 unfold eqV at he
 cases hti : T t with
 | none => simp [hti] at he
 | some ti =>
  simp only [hti] at he
  obtain ⟨d, hd, _, hkf⟩ := (hT t ti hti).desc
  unfold KindFact at hkf
  have nilCase : ∀ k, (∃ q1 q2, nilQ k a = some q1 ∧ nilQ k b = some q2 ∧ ((q1 = true ∧ r = q2) ∨ (q2 = true ∧ r = q1))) → ti.kind = k → (Op.equal t u v).run P w = .ok r w ∧ (∀ op x y, (eqGuard op t x y u v).run P w = .ok () w) ∧ binOp .eql t u v = (do pure (.bool (← Op.equal t u v))) ∧ binOp .neq t u v = (do pure (.bool (!(← Op.equal t u v)))) := by
   rintro k ⟨q1, q2, e1, e2, hq⟩ hk
   rcases nilQ_rep e1 h1 with ⟨rfl, b1, n1, c1, rfl, r1⟩ | ⟨rfl, b1, rfl, r1⟩ | ⟨rfl, r1⟩ | ⟨rfl, rfl, rfl⟩ | ⟨rfl, r1⟩
   ·rcases nilQ_rep e2 h2 with ⟨_, b2, n2, c2, rfl, r2⟩ | ⟨h', _⟩ | ⟨h', _⟩ | ⟨h', _⟩ | ⟨h', _⟩ <;> try omega
    rw [hk] at hkf
    simp only at hkf
    refine ⟨fin hd (.inr (.inl ⟨⟨_, hkf⟩, _, _, _, _, _, _, rfl, rfl, ?_⟩)), fun op x y => by unfold eqGuard; split <;> simp, rfl, rfl⟩
    subst r1 r2
    rcases hq with ⟨q, rfl⟩ | ⟨q, rfl⟩
    ·exact .inl ⟨by cases b1 <;> simp_all, rfl⟩
    ·exact .inr ⟨by cases b2 <;> simp_all, rfl⟩
   ·rcases nilQ_rep e2 h2 with ⟨h', _⟩ | ⟨_, b2, rfl, r2⟩ | ⟨h', _⟩ | ⟨h', _⟩ | ⟨h', _⟩ <;> try omega
    rw [hk] at hkf
    simp only at hkf
    refine ⟨fin hd (.inr (.inr (.inl ⟨hkf, _, _, rfl, rfl, ?_⟩))), fun op x y => by unfold eqGuard; split <;> simp, rfl, rfl⟩
    subst r1 r2
    rcases hq with ⟨q, rfl⟩ | ⟨q, rfl⟩
    ·exact .inl ⟨by cases b1 <;> simp_all, rfl⟩
    ·exact .inr ⟨by cases b2 <;> simp_all, rfl⟩
   ·rcases nilQ_rep e2 h2 with ⟨h', _⟩ | ⟨h', _⟩ | ⟨_, r2⟩ | ⟨h', _⟩ | ⟨h', _⟩ <;> try omega
    rw [hk] at hkf
    simp only at hkf
    rcases r1 with ⟨rfl, rfl⟩ | ⟨rfl, f1, x1, y1, rfl⟩ <;> rcases r2 with ⟨rfl, rfl⟩ | ⟨rfl, f2, x2, y2, rfl⟩
    ·exact ⟨fin hd (.inr (.inr (.inr (.inl ⟨hkf, .inl ⟨rfl, rfl, by simpa using hq⟩⟩)))), fun op x y => by unfold eqGuard; split <;> simp, rfl, rfl⟩
    ·exact ⟨fin hd (.inr (.inr (.inr (.inl ⟨hkf, .inr (.inl ⟨rfl, ⟨_, _, _, rfl⟩, by simpa using hq⟩)⟩)))), fun op x y => by unfold eqGuard; split <;> simp, rfl, rfl⟩
    ·exact ⟨fin hd (.inr (.inr (.inr (.inl ⟨hkf, .inr (.inr ⟨rfl, ⟨_, _, _, rfl⟩, by simpa using hq⟩)⟩)))), fun op x y => by unfold eqGuard; split <;> simp, rfl, rfl⟩
    ·simp at hq
   ·rcases nilQ_rep e2 h2 with ⟨h', _⟩ | ⟨h', _⟩ | ⟨h', _⟩ | ⟨_, rfl, rfl⟩ | ⟨h', _⟩ <;> try omega
    rw [hk] at hkf
    simp only at hkf
    exact ⟨fin hd (.inr (.inr (.inr (.inr (.inl ⟨hkf, rfl, rfl, by simpa using hq⟩))))), fun op x y => by unfold eqGuard; split <;> simp, rfl, rfl⟩
   ·rcases nilQ_rep e2 h2 with ⟨h', _⟩ | ⟨h', _⟩ | ⟨h', _⟩ | ⟨h', _⟩ | ⟨_, r2⟩ <;> try omega
    rw [hk] at hkf
    simp only at hkf
    subst hkf
    have hg : ∀ u v : Value, ∀ op x y, (u = .nilIface ∨ ∃ t x, u = .iface t x) → (v = .nilIface ∨ ∃ t x, v = .iface t x) → (eqGuard op t x y u v).run P w = .ok () w := by
     intro u v op x y hu hv
     have lem : ∀ m, (Op.eqGuardIn (m + 1) t .nilIface .nilIface).run P w = .ok false w := by
      intro m
      simp [Op.eqGuardIn, run_underlying hd]
     have key : (Op.eqGuardIn Op.maxDepth t .nilIface .nilIface).run P w = .ok false w := lem 9999
     rcases hu with rfl | ⟨t1, x1, rfl⟩ <;> rcases hv with rfl | ⟨t2, x2, rfl⟩
     ·unfold eqGuard
      generalize Op.maxDepth = M at key
      cases op <;> first | (simp; done) | (cases x <;> cases y <;> simp [key])
     ·unfold eqGuard; split <;> simp
     ·unfold eqGuard; split <;> simp
     ·unfold eqGuard; split <;> simp
    rcases r1 with ⟨rfl, rfl⟩ | ⟨rfl, t1, x1, rfl⟩ <;> rcases r2 with ⟨rfl, rfl⟩ | ⟨rfl, t2, x2, rfl⟩
    ·exact ⟨fin hd (.inr (.inr (.inr (.inr (.inr ⟨rfl, .inl ⟨rfl, rfl, by simpa using hq⟩⟩))))), fun op x y => hg _ _ _ _ _ (.inl rfl) (.inl rfl), rfl, rfl⟩
    ·exact ⟨fin hd (.inr (.inr (.inr (.inr (.inr ⟨rfl, .inr (.inl ⟨rfl, ⟨_, _, rfl⟩, by simpa using hq⟩)⟩))))), fun op x y => hg _ _ _ _ _ (.inl rfl) (.inr ⟨_, _, rfl⟩), rfl, rfl⟩
    ·exact ⟨fin hd (.inr (.inr (.inr (.inr (.inr ⟨rfl, .inr (.inr ⟨rfl, ⟨_, _, rfl⟩, by simpa using hq⟩)⟩))))), fun op x y => hg _ _ _ _ _ (.inr ⟨_, _, rfl⟩) (.inl rfl), rfl, rfl⟩
    ·simp at hq
  split at he
  ·rename_i hk
   split at he
   ·rename_i x y
    simp only [Option.some.injEq] at he
    simp only [RepA, RepV] at h1 h2
    subst h1 h2
    rw [hk] at hkf
    simp only at hkf
    exact ⟨fin hd (.inl ⟨hkf, x, y, rfl, rfl, he.symm⟩), fun op x y => by unfold eqGuard; split <;> simp, rfl, rfl⟩
   ·cases he
  ·rename_i k hk5
   split at he
   ·rename_i r' e1 e2
    cases he
    exact nilCase _ ⟨_, _, e1, e2, .inl ⟨rfl, rfl⟩⟩ rfl
   ·rename_i r' _ e1 e2
    cases he
    exact nilCase _ ⟨_, _, e1, e2, .inr ⟨rfl, rfl⟩⟩ rfl
   ·cases he
set_option maxHeartbeats 1000000 in
theorem opP_sound (hT : TyOk P T) {tm : Nat → Option AV} {a : Act} (ht : Tms w h tm a) {o : Oper} {v : AV} (hv : opP T (ev tm) o.op = some v) :
  ∃ u, (execOp a.eval o).run P w = .ok (.value u) w ∧ RepA w h v u := by
 unfold opP at hv
 split at hv
 ·
  rename_i x hop
  exact ⟨a.eval x, by simp [execOp, hop], ev_rep ht hv⟩
 ·rename_i x hop
  exact ⟨a.eval x, by simp [execOp, hop], ev_rep ht hv⟩
 ·
  rename_i c x y hop
  split at hv
  ·rename_i hc
   have h1 := ev_rep ht hc
   simp only [RepA, RepV] at h1
   exact ⟨a.eval x, by simp [execOp, hop, h1, asBool], ev_rep ht hv⟩
  ·rename_i hc
   have h1 := ev_rep ht hc
   simp only [RepA, RepV] at h1
   exact ⟨a.eval y, by simp [execOp, hop, h1, asBool], ev_rep ht hv⟩
  ·cases hv
 ·
  rename_i t parts hop
  cases hti : T t with
  | none => simp [hti] at hv
  | some ti =>
   simp only [hti] at hv
   split at hv
   ·rename_i hk
    cases hb : buildCells ti.fields (ev tm) parts.toList ti.zero with
    | none => simp [hb] at hv
    | some cs =>
     simp only [hb, Option.some.injEq] at hv; subst hv
     have hf := hT t ti hti
     obtain ⟨i, z, hi, hs, _, hz, hzc⟩ := hf.info
     obtain ⟨fs, hu, hm, _⟩ := hf.und1 hk
     obtain ⟨g1, g2⟩ := RepVs.plain (w := w) (L := h.L) hf.plain
     obtain ⟨vs', hfl, hr, h1⟩ := fill_cells (w := w) (h := h) (fun x v => ev_rep ht) parts.toList ti.zero cs z.cells hb (by rw [hzc]; exact g1) (by rw [hzc]; exact g2)
     refine ⟨.agg vs', ?_, ?_⟩
     ·have hbt : P.built t (parts.map fun (i, x) => (i, a.eval x)).toList = some vs' := by
       unfold Program.built
       simp only [hi, hu, hz, hm]
       simpa using hfl
      have := run_build (P := P) w t (parts.map fun (i, x) => (i, a.eval x)) vs' hbt
      simp [execOp, hop, this]
     ·simp only [RepA, RepV]
      exact ⟨vs', rfl, hr, h1⟩
   ·cases hv
 ·
  rename_i t x f hop
  cases hti : T t with
  | none => simp [hti] at hv
  | some ti =>
   simp only [hti] at hv
   split at hv
   ·rename_i off sz d u o' hk hfi hx
    simp only [Option.some.injEq] at hv; subst hv
    have h1 := ev_rep ht hx
    simp only [RepA] at h1
    obtain ⟨b, hb, hxe⟩ := h1
    refine ⟨.pointer (some ⟨b, o' + off, none⟩), by simp [execOp, hop, hxe, run_fieldAt (w := w) (hT t ti hti) hk hfi b o'], ?_⟩
    simp only [RepA]
    exact ⟨b, hb, rfl⟩
   ·rename_i off sz cs hk hfi hx
    split at hv
    case isFalse => cases hv
    rename_i hle
    have hle : off ≤ cs.length := by simpa using hle
    simp only [Option.some.injEq] at hv; subst hv
    have h1 := ev_rep ht hx
    simp only [RepA, RepV] at h1
    obtain ⟨b, o', vs, hxe, hr, hl, hc⟩ := h1
    refine ⟨.pointer (some ⟨b, o' + off, none⟩), by simp [execOp, hop, hxe, run_fieldAt (w := w) (hT t ti hti) hk hfi b o'], ?_⟩
    simp only [RepA, RepV]
    exact ⟨b, o' + off, vs.drop off, rfl, hr.drop, by simp; omega, hc.drop off⟩
   ·cases hv
 ·
  rename_i t x i hop
  cases hti : T t with
  | none => simp [hti] at hv
  | some ti =>
   simp only [hti] at hv
   split at hv
   ·rename_i hk
    cases hte : T ti.elem with
    | none => simp [hte] at hv
    | some te =>
     simp only [hte] at hv
     cases hx : ev tm x with
     | none => simp [hx] at hv
     | some ax =>
      simp only [hx] at hv
      cases hes : AV.refs te.size ax with
      | none => simp [hes] at hv
      | some es =>
       simp only [hes] at hv
       cases hix : ev tm i with
       | none => simp [hix] at hv
       | some ai =>
        simp only [hix] at hv
        cases hn : intOf ai with
        | none => simp [hn] at hv
        | some n =>
         simp only [hn] at hv
         split at hv
         ·rename_i h0
          cases he : es[n.toNat]? with
          | none => simp [he] at hv
          | some e =>
           simp only [he, Option.some.injEq] at hv; subst hv
           have hlt : n.toNat < es.length := (List.getElem?_eq_some_iff.1 he).1
           rcases refs_cases hes (n := n.toNat) (e := e) he (ev_rep ht hx) with ⟨ad, o', ln, c, hxe, hll, hpt⟩ | ⟨hes, hel⟩
           ·obtain ⟨k, hki⟩ := intOf_rep hn (ev_rep ht hix)
            have hu := (hT t ti hti).und hk
            have hsz := (hT _ te hte).size w
            have hlt2 : n < (ln : Int) := by omega
            refine ⟨.pointer (some ⟨ad, o' + n.toNat * te.size, none⟩), ?_, hpt⟩
            simp [execOp, hop, hxe, hki, Instr.indexAt, asIntOf, run_underlying hu, h0, hlt2, hsz, Addr.add_mid]
           rw [hel]
           have hrx := row_rep' hes (ev_rep ht hx)
           simp only [RepV] at hrx
           obtain ⟨ad, ln, c, vs, hxe, hln, hc, hus, hf, hm⟩ := hrx
           rcases hm with hm | ⟨b, o', rfl, hL, hcells⟩
           ·omega
           ·obtain ⟨k, hki⟩ := intOf_rep hn (ev_rep ht hix)
            have hu := (hT t ti hti).und hk
            have hsz := (hT _ te hte).size w
            have hlt2 : n < (ln : Int) := by omega
            refine ⟨.pointer (some ⟨b, o' + n.toNat * te.size, none⟩), ?_, ?_⟩
            ·simp [execOp, hop, hxe, hki, Instr.indexAt, asIntOf, run_underlying hu, h0, hlt2, hsz, Addr.add_mid]
            ·simp only [RepA, RepV]
             have hg := hf.get hus he
             have hel := hus e (List.mem_of_getElem? he)
             refine ⟨b, o' + n.toNat * te.size, _, rfl, hg, ?_, hcells.sub _ _⟩
             have : (n.toNat + 1) * te.size ≤ ln * te.size := Nat.mul_le_mul_right _ (by omega)
             rw [Nat.succ_mul] at this
             omega
         ·cases hv
   ·cases hv
 ·
  rename_i t x i hop
  cases hti : T t with
  | none => simp [hti] at hv
  | some ti =>
   simp only [hti] at hv
   split at hv
   ·rename_i s hk hx
    cases hix : ev tm i with
    | none => simp [hix] at hv
    | some ai =>
     simp only [hix] at hv
     cases hn : intOf ai with
     | none => simp [hn] at hv
     | some n =>
      simp only [hn] at hv
      split at hv
      ·rename_i c hc
       simp only [Option.some.injEq] at hv; subst hv
       have h1 := ev_rep ht hx
       simp only [RepA, RepV] at h1
       obtain ⟨k, hki⟩ := intOf_rep hn (ev_rep ht hix)
       have hu := (hT t ti hti).und3 hk
       refine ⟨.int .u8 c.toNat, ?_, by simp [RepA, RepV]⟩
       simp [execOp, hop, h1, hki, Instr.index, asIntOf, run_underlying hu, hc]
      ·cases hv
   ·cases hv
 ·
  rename_i t x lo hi mx hop
  cases hti : T t with
  | none => simp [hti] at hv
  | some ti =>
   simp only [hti] at hv
   split at hv
   ·rename_i ax l hh m hk hx hl hhi hmx
    cases hte : T ti.elem with
    | none => simp [hte] at hv
    | some te =>
     simp only [hte] at hv
     have hu := (hT t ti hti).und hk
     have hsz := (hT _ te hte).size w
     have q : ∀ {y : Option Operand} {r : Option Int}, optI (ev tm) y = some r → (y.map a.eval = none ∧ r = none) ∨ ∃ k n, y.map a.eval = some (.int k n) ∧ r = some n := by
      intro y r hy
      rcases optI_run ht hy with ⟨rfl, rfl⟩ | ⟨z, k, n, rfl, hz, rfl⟩
      ·exact .inl ⟨rfl, rfl⟩
      ·exact .inr ⟨k, n, by simp [hz], rfl⟩
     obtain ⟨u, hrun, hr⟩ := sliceD_rep (w := w) hu hsz hv (ev_rep ht hx) (q hl) (q hhi) (q hmx)
     exact ⟨u, by simp [execOp, hop, hrun], hr⟩
   ·rename_i s l hh hk hx hl hhi hmx
    split at hv
    case isFalse => cases hv
    rename_i hb
    obtain ⟨hb1, hb2, hb3⟩ := hb
    simp only [Option.some.injEq] at hv; subst hv
    have h1 := ev_rep ht hx
    simp only [RepA, RepV] at h1
    have hu := (hT t ti hti).und3 hk
    have hmx' : mx = none := by
     rcases optI_run ht hmx with ⟨h, _⟩ | ⟨_, _, _, _, _, h⟩
     ·exact h
     ·cases h
    subst hmx'
    refine ⟨.string (s.extract (l.getD 0).toNat (hh.getD s.size).toNat), ?_, by simp [RepA, RepV]⟩
    rcases optI_run ht hl with ⟨rfl, rfl⟩ | ⟨y, k, n, rfl, hy, rfl⟩ <;> rcases optI_run ht hhi with ⟨rfl, rfl⟩ | ⟨y', k', n', rfl, hy', rfl⟩ <;>
     simp only [Option.getD_some, Option.getD_none] at hb1 hb2 hb3 ⊢ <;>
     simp [execOp, hop, h1, *, Instr.sliceAt, Instr.slice, Instr.sliceBounds, run_underlying hu, run_sliceBound]
    rw [run_sliceBound (w := w) k' n' s.size _ (by omega) (by omega)]
    simp only [Result.andThen_ok]
    rw [run_sliceBound (w := w) k n n'.toNat _ hb1 (by omega)]
    simp only [Result.andThen_ok]
   ·cases hv
 ·
  rename_i x i hop
  split at hv
  ·rename_i xs hx
   have h1 := ev_rep ht hx
   simp only [RepA] at h1
   obtain ⟨cv, hxe, hr⟩ := h1
   obtain ⟨u, hu, hru⟩ := hr.get hv
   refine ⟨u, ?_, hru⟩
   have hcu : cv[i]? = some u := by simpa using hu
   simp [execOp, hop, hxe, Instr.extract, hcu]
  ·cases hv
 ·
  rename_i x hop
  split at hv
  ·rename_i d u o hx
   simp only [Option.some.injEq] at hv; subst hv
   have h1 := ev_rep ht hx
   have h2 := h1
   simp only [RepA] at h2
   obtain ⟨b, hb, hxe⟩ := h2
   exact ⟨a.eval x, by simp [execOp, hop, hxe], h1⟩
  ·rename_i cs hx
   simp only [Option.some.injEq] at hv; subst hv
   have h1 := ev_rep ht hx
   have h2 := h1
   simp only [RepA, RepV] at h2
   obtain ⟨b, o', vs, hxe, _⟩ := h2
   exact ⟨a.eval x, by simp [execOp, hop, hxe], h1⟩
  ·cases hv
 ·
  rename_i op t x y ty hop
  split at hv
  ·rename_i ax ay hx hy
   have h1 := ev_rep ht hx
   have h2 := ev_rep ht hy
   cases hob : opB (binOp op t) ax ay with
   | none =>
    simp only [hob] at hv
    unfold eqA at hv
    cases heq : eqV T t ax ay with
    | none => simp [heq] at hv
    | some r =>
     simp only [heq] at hv
     obtain ⟨q1, q2, q3, q4⟩ := eqV_run hT heq h1 h2
     cases op <;> simp at hv
     ·subst hv
      exact ⟨.bool r, by simp [execOp, hop, q2, q3, q1], by simp [RepA, RepV]⟩
     ·subst hv
      exact ⟨.bool (!r), by simp [execOp, hop, q2, q4, q1], by simp [RepA, RepV]⟩
   | some v' =>
   simp only [hob, Option.some.injEq] at hv
   subst hv
   have hv := hob
   obtain ⟨u, hrun, hr⟩ := opB_run (P := P) hv h1 h2
   refine ⟨u, ?_, hr⟩
   unfold opB at hv
   split at hv
   ·rename_i p q
    cases hp : p.val with
    | none => simp [hp] at hv
    | some pv =>
     cases hq : q.val with
     | none => simp [hp, hq] at hv
     | some qv =>
      simp only [RepA] at h1 h2
      rw [val_rep hp h1, val_rep hq h2] at hrun
      have hg := eqGuard_plain (P := P) (w := w) (op := op) (t := t) (x := x) (y := y) hp hq
      simp [execOp, hop, val_rep hp h1, val_rep hq h2, hg, hrun]
   ·cases hv
  ·cases hv
 ·
  rename_i op t x hop
  split at hv
  ·rename_i p hx
   have h1 := ev_rep ht hx
   cases hp : p.val with
   | none => simp [hp] at hv
   | some pv =>
    simp only [hp] at hv
    simp only [RepA] at h1
    obtain ⟨u, hrun, hr⟩ := semV_run (P := P) (w := w) (h := h) hv
    exact ⟨u, by simp [execOp, hop, val_rep hp h1, hrun], hr⟩
  ·cases hv
 ·
  rename_i t x hop
  cases hti : T t with
  | none => simp [hti] at hv
  | some ti =>
   simp only [hti] at hv
   split at hv
   ·rename_i cs hx
    split at hv
    case isFalse => cases hv
    rename_i hk
    simp only [Option.some.injEq] at hv; subst hv
    have h1 := ev_rep ht hx
    obtain ⟨fs, hu, _⟩ := (hT t ti hti).und1 (Nat.eq_of_beq_eq_true hk)
    have hrun : (Instr.makeInterface t (a.eval x)).run P w = .ok (.iface t (a.eval x)) w := by
     simp [Instr.makeInterface, run_underlying hu]
    simp only [RepA] at h1 ⊢
    refine ⟨.iface t (a.eval x), by simp [execOp, hop, hrun], ?_⟩
    simp only [RepV]
    exact ⟨_, rfl, by simpa only [RepV] using h1⟩
   ·rename_i k n hx
    split at hv
    case isFalse => cases hv
    rename_i hk
    simp only [Option.some.injEq] at hv; subst hv
    have h1 := ev_rep ht hx
    obtain ⟨l, hu⟩ := (hT t ti hti).und4 (Nat.eq_of_beq_eq_true hk)
    have hrun : (Instr.makeInterface t (a.eval x)).run P w = .ok (.iface t (a.eval x)) w := by
     simp [Instr.makeInterface, run_underlying hu]
    simp only [RepA] at h1 ⊢
    refine ⟨.iface t (a.eval x), by simp [execOp, hop, hrun], ?_⟩
    simp only [RepV]
    exact ⟨_, rfl, by simpa only [RepV] using h1⟩
   ·cases hv
 ·
  rename_i x xt t ok hop
  cases hti : T t with
  | none => simp [hti] at hv
  | some ti =>
   simp only [hti] at hv
   have hf := hT t ti hti
   have plain : (Nat.beq ti.kind 1 || Nat.beq ti.kind 4) = true → ∃ d, P.underlying t = some d ∧ ∀ ms, d ≠ .interface ms := by
    intro hk
    simp only [Bool.or_eq_true] at hk
    rcases hk with hk | hk
    ·obtain ⟨fs, hu, _⟩ := hf.und1 (Nat.eq_of_beq_eq_true hk)
     exact ⟨_, hu, fun ms e => by cases e⟩
    ·obtain ⟨l, hu⟩ := hf.und4 (Nat.eq_of_beq_eq_true hk)
     exact ⟨_, hu, fun ms e => by cases e⟩
   have zero : ∀ {v : AV}, zeroT ti = some v → ∃ u, RepA w h v (.tuple #[u, .bool false]) ∧ (zeroValue t).run P w = .ok u w := by
    intro v hz
    obtain ⟨i, hi, hzv⟩ := hf.val
    refine ⟨zeroV ti, ?_, by simp [zeroValue, typeInfo, hi, hzv]⟩
    obtain ⟨g1, g2⟩ := RepVs.plain (w := w) (L := h.L) hf.plain
    unfold zeroT at hz
    unfold zeroV
    split at hz
    ·rename_i ha
     simp only [Option.some.injEq] at hz; subst hz
     simp only [ha, RepA, RepAs]
     refine ⟨_, rfl, _, _, rfl, ?_, _, _, rfl, by simp [RepV], rfl⟩
     simp only [RepV]
     exact ⟨_, rfl, by simpa using g1, by simpa using g2⟩
    ·rename_i ha
     split at hz
     ·rename_i z hzz
      simp only [Option.some.injEq] at hz; subst hz
      simp only [ha, RepA, RepAs]
      refine ⟨_, rfl, _, _, rfl, ?_, _, _, rfl, by simp [RepV], rfl⟩
      rw [hzz] at g1
      simp only [List.map_cons, List.map_nil, RepVs] at g1
      obtain ⟨u, us, he, hu, _⟩ := g1
      rw [hzz]
      simp only [List.cons.injEq] at he
      simp only [List.map_cons, List.headD_cons]
      rw [he.1]; exact hu
     ·cases hz
   split at hv
   ·rename_i u y hx
    split at hv
    case isFalse => cases hv
    rename_i hk
    obtain ⟨d, hd, hnd⟩ := plain hk
    have h1 := ev_rep ht hx
    simp only [RepA, RepV] at h1
    obtain ⟨yv, hxe, hy⟩ := h1
    split at hv
    ·rename_i hut
     have hut := Nat.eq_of_beq_eq_true hut
     subst hut
     simp only [Option.some.injEq] at hv; subst hv
     refine ⟨.tuple #[yv, .bool true], ?_, ?_⟩
     ·have hrun : (Instr.typeAssert (a.eval x) xt u true).run P w = .ok (.tuple #[yv, .bool true]) w := by
       rw [hxe]
       cases d <;> first | exact absurd rfl (hnd _) | simp [Instr.typeAssert, run_underlying hd]
      simp [execOp, hop, hrun]
     ·simp only [RepA, RepAs]
      exact ⟨_, rfl, _, _, rfl, hy, _, _, rfl, by simp [RepV], rfl⟩
    ·rename_i hut
     have hut : u ≠ t := by simpa using hut
     obtain ⟨z, hz1, hz2⟩ := zero hv
     refine ⟨_, ?_, hz1⟩
     have hrun : (Instr.typeAssert (a.eval x) xt t true).run P w = .ok (.tuple #[z, .bool false]) w := by
      rw [hxe]
      cases d <;> first | exact absurd rfl (hnd _) | simp [Instr.typeAssert, run_underlying hd, hut, hz2]
     simp [execOp, hop, hrun]
   ·rename_i hx
    split at hv
    case isFalse => cases hv
    rename_i hk
    obtain ⟨d, hd, hnd⟩ := plain hk
    have h1 := ev_rep ht hx
    simp only [RepA, RepV] at h1
    obtain ⟨z, hz1, hz2⟩ := zero hv
    refine ⟨_, ?_, hz1⟩
    have hrun : (Instr.typeAssert (a.eval x) xt t true).run P w = .ok (.tuple #[z, .bool false]) w := by
     rw [h1]
     cases d <;> first | exact absurd rfl (hnd _) | simp [Instr.typeAssert, run_underlying hd, hz2]
    simp [execOp, hop, hrun]
   ·cases hv
 ·
  rename_i s t x hop
  cases hsi : T s with
  | none => simp [hsi] at hv
  | some si =>
   cases hti : T t with
   | none => simp [hsi, hti] at hv
   | some ti =>
    simp only [hsi, hti] at hv
    split at hv
    ·rename_i k1 k2 k n e1 e2 hx
     simp only [Option.some.injEq] at hv; subst hv
     have h1 := ev_rep ht hx
     simp only [RepA, RepV] at h1
     have hu1 := (hT s si hsi).int _ e1
     have hu2 := (hT t ti hti).int _ e2
     refine ⟨.int k2 (k2.wrap n), ?_, by simp [RepA, RepV]⟩
     simp [execOp, hop, h1, convert, run_underlying hu1, run_underlying hu2, Conv.intToInt]
    ·cases hv
 ·
  rename_i c hop
  obtain ⟨v', hrun, hr⟩ := lenA_run (a := a) (ty := o.type) hT ht hv
  exact ⟨v', by simp [execOp, hop, hrun], hr⟩
 ·cases hv
end
end Go.Abs
namespace Go.Abs
open Go
set_option linter.unusedVariables false
set_option linter.unusedSimpArgs false
mutual
 def AV.ok (Q : Id → Prop) (K : Nat → Nat → Prop) (Y : Nat → Prop) : AV → Prop
  | .d _ => True
  | .own i _ _ => Q i
  | .ptr d1 t _ => K d1 t
  | .fn _ caps => AV.oks (fun _ => False) K Y caps
  | .tup xs => AV.oks Q K Y xs
  | .yld l => Y l
  | .raw _ _ i _ _ => Q i
  | .old _ _ _ => True
 def AV.oks (Q : Id → Prop) (K : Nat → Nat → Prop) (Y : Nat → Prop) : List AV → Prop
  | [] => True
  | a :: as => AV.ok Q K Y a ∧ AV.oks Q K Y as
end
mutual
 theorem AV.ok.mono {Q Q' : Id → Prop} {K K' : Nat → Nat → Prop} {Y Y' : Nat → Prop} (hQ : ∀ i, Q i → Q' i) (hK : ∀ d t, K d t → K' d t) (hY : ∀ l, Y l → Y' l) :
   ∀ (a : AV), a.ok Q K Y → a.ok Q' K' Y'
  | .d _, _ => by simp [AV.ok]
  | .own i _ _, h => by simp only [AV.ok] at h ⊢; exact hQ _ h
  | .ptr d1 t _, h => by simp only [AV.ok] at h ⊢; exact hK _ _ h
  | .fn _ caps, h => by simp only [AV.ok] at h ⊢; exact AV.oks.mono (fun _ h => h) hK hY caps h
  | .tup xs, h => by simp only [AV.ok] at h ⊢; exact AV.oks.mono hQ hK hY xs h
  | .yld l, h => by simp only [AV.ok] at h ⊢; exact hY _ h
  | .raw _ _ i _ _, h => by simp only [AV.ok] at h ⊢; exact hQ _ h
  | .old _ _ _, _ => by simp [AV.ok]
 theorem AV.oks.mono {Q Q' : Id → Prop} {K K' : Nat → Nat → Prop} {Y Y' : Nat → Prop} (hQ : ∀ i, Q i → Q' i) (hK : ∀ d t, K d t → K' d t) (hY : ∀ l, Y l → Y' l) :
   ∀ (as : List AV), AV.oks Q K Y as → AV.oks Q' K' Y' as
  | [], _ => by simp [AV.oks]
  | a :: as, h => by simp only [AV.oks] at h ⊢; exact ⟨AV.ok.mono hQ hK hY a h.1, AV.oks.mono hQ hK hY as h.2⟩
end
mutual
 theorem RepA.ext {w w' : World} {h h' : Gh} {Q : Id → Prop} {K : Nat → Nat → Prop} {Y : Nat → Prop} (hE : Ext w h.L w' h'.L)
   (hbe : ∀ d t b, K d t → h.be d t = some b → h'.be d t = some b) (hro : ∀ l, Y l → h'.ro l = h.ro l)
   (hga : ∀ i b, Q i → h.ga i = some b → h'.ga i = some b ∧ h'.L b = h.L b ∧ w'.heap[b]? = w.heap[b]?) :
   ∀ (a : AV) (v : Value), a.ok Q K Y → RepA w h a v → RepA w' h' a v
  | .d x, v, _, hr => by simp only [RepA] at hr ⊢; exact hr.ext hE
  | .own i sz es, v, hok, hr => by
   simp only [RepA, AV.ok] at hr hok ⊢
   rcases hr with hr | ⟨b, n, c, vs, cc, e, rfl, hn, hc, hs, hf, hg, hL, hh, hrm, hcells⟩
   ·exact .inl (hr.ext hE)
   ·obtain ⟨g1, g2, g3⟩ := hga i b hok hg
    have hlen := hf.length hs
    refine .inr ⟨b, n, c, vs, cc, e, rfl, hn, hc, hs, RepF.ext hE es vs hf, g1, by rw [g2, hL], by rw [g3, hh], hrm, hcells.ext hE (by rw [hL, hlen, hn]; omega)⟩
  | .ptr d t off, v, hok, hr => by
   simp only [RepA, AV.ok] at hr hok ⊢
   obtain ⟨b, hb, rfl⟩ := hr
   exact ⟨b, hbe _ _ _ hok hb, rfl⟩
  | .fn f caps, v, hok, hr => by
   simp only [RepA, AV.ok] at hr hok ⊢
   obtain ⟨cv, rfl, hc⟩ := hr
   exact ⟨cv, rfl, RepAs.ext hE hbe hro (fun _ _ h => h.elim) caps _ hok hc⟩
  | .tup xs, v, hok, hr => by
   simp only [RepA, AV.ok] at hr hok ⊢
   obtain ⟨cv, rfl, hc⟩ := hr
   exact ⟨cv, rfl, RepAs.ext hE hbe hro hga xs _ hok hc⟩
  | .yld l, v, hok, hr => by
   simp only [AV.ok] at hok
   simp only [RepA] at hr ⊢
   rw [hr, hro _ hok]
  | .old _ _ _, v, _, hr => by simpa only [RepA] using hr
  | .raw o k i sz es, v, hok, hr => by
   simp only [RepA, AV.ok] at hr hok ⊢
   rcases hr with ⟨ho, hk, hr⟩ | hr | ⟨b, n, c, vs, cc, e, hv, hm, hn, hc, hkn, hs, hf, hg, hL, hh, hrm, hcells⟩
   ·exact .inl ⟨ho, hk, hr.ext hE⟩
   ·exact .inr (.inl hr)
   ·obtain ⟨g1, g2, g3⟩ := hga i b hok hg
    refine .inr (.inr ⟨b, n, c, vs, cc, e, hv, hm, hn, hc, hkn, hs, RepF.ext hE es vs hf, g1, by rw [g2, hL], by rw [g3, hh], hrm, ?_⟩)
    intro j u hj
    have := hcells j u hj
    rw [World.cell?_of_block g3]
    exact this
 theorem RepAs.ext {w w' : World} {h h' : Gh} {Q : Id → Prop} {K : Nat → Nat → Prop} {Y : Nat → Prop} (hE : Ext w h.L w' h'.L)
   (hbe : ∀ d t b, K d t → h.be d t = some b → h'.be d t = some b) (hro : ∀ l, Y l → h'.ro l = h.ro l)
   (hga : ∀ i b, Q i → h.ga i = some b → h'.ga i = some b ∧ h'.L b = h.L b ∧ w'.heap[b]? = w.heap[b]?) :
   ∀ (as : List AV) (vs : List Value), AV.oks Q K Y as → RepAs w h as vs → RepAs w' h' as vs
  | [], vs, _, hr => by simpa only [RepAs] using hr
  | a :: as, vs, hok, hr => by
   simp only [RepAs, AV.oks] at hr hok ⊢
   obtain ⟨u, us, rfl, h1, h2⟩ := hr
   exact ⟨u, us, rfl, RepA.ext hE hbe hro hga a u hok.1 h1, RepAs.ext hE hbe hro hga as us hok.2 h2⟩
end
mutual
 theorem RepA.dem {w : World} {h : Gh} (i : Id) : ∀ (a : AV) (v : Value), RepA w h a v → RepA w h (dem i a) v
  | .d x, v, hr => by simpa only [dem] using hr
  | .own j sz es, v, hr => by
   simp only [Go.Abs.dem]
   split
   ·simp only [RepA]; exact hr.own_sl
   ·exact hr
  | .ptr _ _ _, v, hr => by simpa only [dem] using hr
  | .fn _ _, v, hr => by simpa only [dem] using hr
  | .tup xs, v, hr => by
   simp only [Go.Abs.dem, RepA] at hr ⊢
   obtain ⟨cv, rfl, hc⟩ := hr
   exact ⟨cv, rfl, RepAs.dem i xs _ hc⟩
  | .yld _, v, hr => by simpa only [dem] using hr
  | .old _ _ _, v, hr => by simpa only [dem] using hr
  | .raw o k j sz es, v, hr => by
   simp only [Go.Abs.dem]
   split
   ·simp only [RepA]; exact hr.raw_old
   ·exact hr
 theorem RepAs.dem {w : World} {h : Gh} (i : Id) : ∀ (as : List AV) (vs : List Value), RepAs w h as vs → RepAs w h (dems i as) vs
  | [], vs, hr => by simpa only [dems] using hr
  | a :: as, vs, hr => by
   simp only [dems, RepAs] at hr ⊢
   obtain ⟨u, us, rfl, h1, h2⟩ := hr
   exact ⟨u, us, rfl, RepA.dem i a u h1, RepAs.dem i as us h2⟩
end
mutual
 theorem AV.ok.dem {Q : Id → Prop} {K : Nat → Nat → Prop} {Y : Nat → Prop} (i : Id) : ∀ (a : AV), a.ok Q K Y → (dem i a).ok (fun j => Q j ∧ j ≠ i) K Y
  | .d _, _ => by simp [Go.Abs.dem, AV.ok]
  | .own j _ _, h => by
   simp only [Go.Abs.dem, AV.ok] at h ⊢
   split
   ·simp [AV.ok]
   ·rename_i hne; simp only [AV.ok]; exact ⟨h, fun e => hne e.symm⟩
  | .ptr d1 t _, h => by simpa only [Go.Abs.dem, AV.ok] using h
  | .fn _ caps, h => by simpa only [Go.Abs.dem, AV.ok] using h
  | .tup xs, h => by simp only [Go.Abs.dem, AV.ok] at h ⊢; exact AV.oks.dem i xs h
  | .yld l, h => by simpa only [Go.Abs.dem, AV.ok] using h
  | .old _ _ _, _ => by simp [Go.Abs.dem, AV.ok]
  | .raw _ _ j _ _, h => by
   simp only [Go.Abs.dem, AV.ok] at h ⊢
   split
   ·simp [AV.ok]
   ·rename_i hne; simp only [AV.ok]; exact ⟨h, fun e => hne e.symm⟩
 theorem AV.oks.dem {Q : Id → Prop} {K : Nat → Nat → Prop} {Y : Nat → Prop} (i : Id) : ∀ (as : List AV), AV.oks Q K Y as → AV.oks (fun j => Q j ∧ j ≠ i) K Y (dems i as)
  | [], _ => by simp [dems, AV.oks]
  | a :: as, h => by simp only [dems, AV.oks] at h ⊢; exact ⟨AV.ok.dem i a h.1, AV.oks.dem i as h.2⟩
end
theorem dems_get (i : Id) : ∀ (as : List AV) (k : Nat), (dems i as)[k]? = (as[k]?).map (dem i)
 | [], k => by simp [dems]
 | a :: as, 0 => by simp [dems]
 | a :: as, k + 1 => by simp [dems, dems_get i as k]
def KG (g : G) (n : Nat) (d t : Nat) : Prop := d ≤ n ∧ (g.bx d t).isSome = true
def YG (g : G) (n : Nat) (l : Nat) : Prop := ∃ r, g.lp[l]? = some r ∧ r.dp < n
theorem YG.lt {g : G} {n l : Nat} (h : YG g n l) : l < g.lp.length := by
 obtain ⟨r, hr, _⟩ := h
 exact (List.getElem?_eq_some_iff.1 hr).1
def IsBox : Id → Prop
 | .box _ _ _ => True
 | _ => False
def TmQ (fr : Nat → Bool) (dp : Nat) : Id → Prop
 | .box _ _ _ => True
 | .tmp d t _ => d = dp ∧ fr t = true
 | .res _ => False
def NoId : Id → Prop := fun _ => False
def TyOf (t : Nat × Nat) := { e : TypeId // t.1 = 0 ∨ t.1 = e }
def byteRow (l : List UInt8) : List (List D) := l.map fun c => [.int .u8 c.toNat]
def StrongL (w : World) (h : Gh) (bt : TypeId) (as : List AV) (vs : List Value) : Prop :=
 ∀ i sz es v, as[1]? = some (.own i sz es) → vs[1]? = some v → (v = .slice none 0 0 ∧ es = []) ∨ ∃ b n c cc, v = .slice (some ⟨b, 0, none⟩) n c ∧ h.ga i = some b ∧ h.L b = n ∧ w.heap[b]? = some (.cells cc bt (0, 0)) ∧ n ≤ c ∧ c ≤ cc.size ∧ 0 < c ∧ ∃ l : List UInt8, es = byteRow l
def RepBx (w : World) (h : Gh) (ty : Nat × Nat) (as : List AV) (vs : List Value) : Prop := RepAs w h as vs ∧ (ty.1 ≠ 0 → StrongL w h ty.2 as vs)
theorem oks_at {Q : Id → Prop} {K : Nat → Nat → Prop} {Y : Nat → Prop} : ∀ {xs : List AV} {i : Nat} {v : AV}, AV.oks Q K Y xs → xs[i]? = some v → v.ok Q K Y
 | [], i, v, _, h => by simp at h
 | x :: xs, 0, v, ho, h => by simp only [AV.oks] at ho; simp at h; subst h; exact ho.1
 | x :: xs, i + 1, v, ho, h => by simp only [AV.oks] at ho; exact oks_at ho.2 (by simpa using h)
theorem RepBx.ext {w w' : World} {h h' : Gh} {ty : Nat × Nat} {Q : Id → Prop} {K : Nat → Nat → Prop} {Y : Nat → Prop} (hE : Ext w h.L w' h'.L)
  (hbe : ∀ d t b, K d t → h.be d t = some b → h'.be d t = some b) (hro : ∀ l, Y l → h'.ro l = h.ro l)
  (hga : ∀ i b, Q i → h.ga i = some b → h'.ga i = some b ∧ h'.L b = h.L b ∧ w'.heap[b]? = w.heap[b]?)
  (as : List AV) (vs : List Value) (ho : AV.oks Q K Y as) (hr : RepBx w h ty as vs) : RepBx w' h' ty as vs := by
 refine ⟨RepAs.ext hE hbe hro hga as vs ho hr.1, fun ht i sz es v hi hv => ?_⟩
 rcases hr.2 ht i sz es v hi hv with h1 | ⟨b, n, c, cc, h1, h2, h3, h4, h5⟩
 ·exact .inl h1
 ·have hq : Q i := by have := oks_at ho hi; simpa only [AV.ok] using this
  obtain ⟨g1, g2, g3⟩ := hga i b hq h2
  exact .inr ⟨b, n, c, cc, h1, g1, by rw [g2, h3], by rw [g3, h4], h5⟩
theorem RepBx.dem {w : World} {h : Gh} {ty : Nat × Nat} (i : Id) (as : List AV) (vs : List Value) (hr : RepBx w h ty as vs) : RepBx w h ty (dems i as) vs := by
 refine ⟨RepAs.dem i as vs hr.1, fun ht j sz es v hi hv => ?_⟩
 rw [dems_get] at hi
 cases ha : as[1]? with
 | none => rw [ha] at hi; cases hi
 | some a =>
  rw [ha] at hi
  simp only [Option.map_some, Option.some.injEq] at hi
  cases a with
  | own k z es' =>
   simp only [Abs.dem] at hi
   split at hi
   ·cases hi
   ·cases hi; exact hr.2 ht _ _ _ v ha hv
  | raw o k j' z es' =>
   simp only [Abs.dem] at hi
   split at hi <;> cases hi
  | _ => simp only [Abs.dem] at hi; cases hi
theorem RepBx.noOwn {w w' : World} {h h' : Gh} {ty : Nat × Nat} {as : List AV} {vs : List Value} (hr : RepAs w h as vs) (hn : ∀ i sz es, as[1]? ≠ some (.own i sz es)) : RepBx w h ty as vs := ⟨hr, fun _ i sz es v hi _ => absurd hi (hn i sz es)⟩
theorem RepBx.plain {w : World} {h : Gh} {ty : Nat × Nat} {as : List AV} {vs : List Value} (hr : RepAs w h as vs) (ht : ty.1 = 0) : RepBx w h ty as vs := ⟨hr, fun hn => absurd ht hn⟩
def BoxOk (g : G) (w : World) (h : Gh) (d t : Nat) (bo : Box) : Prop :=
 AV.oks IsBox (KG g d) (YG g d) bo.cells ∧ ∃ (b : Nat) (c : Array Value) (e : TyOf bo.ty), h.be d t = some b ∧ w.heap[b]? = some (.cells c e.1 (0, 0)) ∧ RepBx w h bo.ty bo.cells c.toList ∧
  (∀ u ∈ c.toList, u.oneCell' = true) ∧ h.L b = if bo.frz then c.size else 0
def exCode : Ex → Option Code
 | .exit id => some (.exit id)
 | .goto l => some (.goto l)
 | .ret => some .ret
 | _ => none
def loopObj (r : LoopRec) (q : Array Value × FuncId) (D : Nat) : Loop :=
 {state := match r.pend with
   | none => .ready
   | some .normal => .busy
   | some _ => .done
  pending := match r.pend with
   | none => none
   | some e => exCode e
  fn := q.2, tmps := q.1, params := r.params.toArray, assign := r.assign, body := r.body, defers := D }
def LoopOk (g : G) (w : World) (h : Gh) (l : Nat) (r : LoopRec) : Prop :=
 ((∀ e, r.pend = some e → e = .normal ∨ (exCode e).isSome = true) ∧ r.dp ≤ g.dp ∧ codeOk r.hint r.assign = true ∧ codeOk r.hint r.body = true) ∧ ∃ D tmps, w.heap[(h.ro l).1]? = some (.loop (loopObj r tmps D)) ∧ w.heap[D]? = some (.deferred (some [])) ∧ (tmps.1.size = r.nt ∧ D = (h.ro l).2) ∧
  ∀ t v, r.tm t = some v → RepA w h v (tmps.1.getD t undef) ∧ v.ok NoId (KG g r.dp) (YG g r.dp)
structure GI (g : G) (w : World) (h : Gh) : Prop where
 bx : ∀ d t bo, g.bx d t = some bo → d ≤ g.dp ∧ BoxOk g w h d t bo
 inj : ∀ d t d' t' b, (g.bx d t).isSome = true → (g.bx d' t').isSome = true → h.be d t = some b → h.be d' t' = some b → d = d' ∧ t = t'
 gaBx : ∀ i b d t, h.ga i = some b → (g.bx d t).isSome = true → h.be d t ≠ some b
 gaInj : ∀ i j b, h.ga i = some b → h.ga j = some b → i = j
 gaLt : ∀ i b, h.ga i = some b → b < w.heap.size
 gaC : ∀ i b, h.ga i = some b → ∃ c e, w.heap[b]? = some (.cells c e (0, 0))
 lim : ∀ b, w.heap.size ≤ b → h.L b = 0
 lp : ∀ l r, g.lp[l]? = some r → LoopOk g w h l r
 roInj : ∀ l l', l < g.lp.length → l' < g.lp.length → (h.ro l).1 = (h.ro l').1 → l = l'
 gaTop : ∀ d t j, g.dp < d → h.ga (.tmp d t j) = none
structure FI (nt : Nat) (s : St) (a : Act) (w : World) (h : Gh) : Prop where
 size : a.tmps.size = nt
 tm : ∀ t v, s.tm t = some v → RepA w h v (a.tmps.getD t undef) ∧ v.ok (TmQ s.fr s.g.dp) (KG s.g s.g.dp) (YG s.g s.g.dp)
 gi : GI s.g w h
 dfr : ∀ x ∈ a.defers, ∀ D, x = { target := .collected D, args := #[] } → w.heap[D]? = some (.deferred (some []))
def May (g0 : G) (h0 : Gh) (b : Nat) : Prop :=
 (∃ d t, (g0.bx d t).isSome = true ∧ h0.be d t = some b) ∨ (∃ i, (∀ d t j, i ≠ .tmp d t j) ∧ h0.ga i = some b) ∨ ∃ l, l < g0.lp.length ∧ b = (h0.ro l).1
structure Rel (g0 : G) (h0 : Gh) (w0 : World) (g : G) (w : World) (h : Gh) : Prop where
 os : w.os = w0.os
 tape : w.tape = w0.tape
 output : w.output = w0.output
 size : w0.heap.size ≤ w.heap.size
 ext : Ext w0 h0.L w h.L
 keep : ∀ b, b < w0.heap.size → ¬ May g0 h0 b → w.heap[b]? = w0.heap[b]? ∧ h.L b = h0.L b
 bxs : ∀ d t, (g0.bx d t).isSome = true → (g.bx d t).isSome = true ∧ h.be d t = h0.be d t
 ro : ∀ l, l < g0.lp.length → h.ro l = h0.ro l
 ga : ∀ d t j, d ≤ g0.dp → h.ga (.tmp d t j) = h0.ga (.tmp d t j)
 bxMay : ∀ d t b, (g.bx d t).isSome = true → h.be d t = some b → w0.heap.size ≤ b ∨ May g0 h0 b
 gaMay : ∀ i b, (∀ d t j, i = .tmp d t j → g0.dp < d) → h.ga i = some b → w0.heap.size ≤ b ∨ May g0 h0 b
 lpMay : ∀ l, l < g.lp.length → w0.heap.size ≤ (h.ro l).1 ∨ May g0 h0 (h.ro l).1
 lpLen : g0.lp.length ≤ g.lp.length
theorem Rel.refl {g : G} {w : World} {h : Gh} (hg : GI g w h) : Rel g h w g w h where
 os := rfl
 tape := rfl
 output := rfl
 size := Nat.le_refl _
 ext := Ext.refl _ _
 keep := fun _ _ _ => ⟨rfl, rfl⟩
 bxs := fun _ _ hh => ⟨hh, rfl⟩
 ro := fun _ _ => rfl
 ga := fun _ _ _ _ => rfl
 bxMay := fun d t b hs hb => .inr (.inl ⟨d, t, hs, hb⟩)
 gaMay := fun i b hi hb => by
  cases i with
  | tmp d t j => rw [hg.gaTop d t j (hi d t j rfl)] at hb; cases hb
  | box d t j => exact .inr (.inr (.inl ⟨_, by simp, hb⟩))
  | res j => exact .inr (.inr (.inl ⟨_, by simp, hb⟩))
 lpMay := fun l hl => .inr (.inr (.inr ⟨l, hl, rfl⟩))
 lpLen := Nat.le_refl _
theorem Rel.call {g0 g1 g2 : G} {h0 h1 h2 : Gh} {w0 w1 w2 : World} (hr : Rel g0 h0 w0 g1 w1 h1) (hc : Rel g1 h1 w1 g2 w2 h2) (hdp : g0.dp ≤ g1.dp) : Rel g0 h0 w0 g2 w2 h2 := by
 have may : ∀ b, May g1 h1 b → w0.heap.size ≤ b ∨ May g0 h0 b := by
  intro b hb
  rcases hb with ⟨d, t, hs, hb⟩ | ⟨i, hi, hb⟩ | ⟨l, hl, rfl⟩
  ·exact hr.bxMay d t b hs hb
  ·exact hr.gaMay _ b (fun d t j e => absurd e (hi d t j)) hb
  ·exact hr.lpMay l hl
 have step : ∀ b, w1.heap.size ≤ b ∨ May g1 h1 b → w0.heap.size ≤ b ∨ May g0 h0 b := by
  intro b hb
  rcases hb with hb | hb
  ·exact .inl (Nat.le_trans hr.size hb)
  ·exact may b hb
 refine
  {os := hc.os.trans hr.os
   tape := hc.tape.trans hr.tape
   output := hc.output.trans hr.output
   size := Nat.le_trans hr.size hc.size
   ext := hr.ext.trans hc.ext
   keep := ?_
   bxs := fun d t hs => ⟨(hc.bxs d t (hr.bxs d t hs).1).1, ((hc.bxs d t (hr.bxs d t hs).1).2).trans (hr.bxs d t hs).2⟩
   ro := fun l hl => (hc.ro l (Nat.lt_of_lt_of_le hl hr.lpLen)).trans (hr.ro l hl)
   ga := fun d t j hd => (hc.ga d t j (Nat.le_trans hd hdp)).trans (hr.ga d t j hd)
   bxMay := fun d t b hs hb => step b (hc.bxMay d t b hs hb)
   gaMay := ?_
   lpMay := fun l hl => step _ (hc.lpMay l hl)
   lpLen := Nat.le_trans hr.lpLen hc.lpLen }
 ·intro b hb hm
  have hm1 : ¬ May g1 h1 b := fun hh => by
   rcases may b hh with h3 | h3
   ·omega
   ·exact hm h3
  obtain ⟨a1, a2⟩ := hr.keep b hb hm
  obtain ⟨b1, b2⟩ := hc.keep b (Nat.lt_of_lt_of_le hb hr.size) hm1
  exact ⟨b1.trans a1, b2.trans a2⟩
 ·intro i b hi hb
  cases i with
  | box d t j => exact step b (hc.gaMay _ b (by intro _ _ _ e; cases e) hb)
  | res j => exact step b (hc.gaMay _ b (by intro _ _ _ e; cases e) hb)
  | tmp d t j =>
   have hd := hi d t j rfl
   by_cases hd1 : d ≤ g1.dp
   ·rw [hc.ga d t j hd1] at hb
    exact hr.gaMay _ b hi hb
   ·exact step b (hc.gaMay _ b (by intro d' t' j' e; cases e; omega) hb)
theorem lt_of_heap {w : World} {b : Nat} {o : Obj} (h : w.heap[b]? = some o) : b < w.heap.size := (Array.getElem?_eq_some_iff.1 h).1
theorem ext_grow {w w' : World} {L L' : Nat → Nat} (hb : RowKit.Below w.heap.size w w') (hL : ∀ b, b < w.heap.size → L' b = L b) (h0 : ∀ b, w.heap.size ≤ b → L b = 0) : Ext w L w' L' where
 lim := fun b => by
  by_cases hlt : b < w.heap.size
  ·rw [hL b hlt]; exact Nat.le_refl _
  ·rw [h0 b (by omega)]; exact Nat.zero_le _
 cell := fun b i hi => by
  have hlt : b < w.heap.size := by
   by_cases hlt : b < w.heap.size
   ·exact hlt
   ·rw [h0 b (by omega)] at hi; omega
  exact hb.cell (p := ⟨b, i, none⟩) hlt
theorem GI.grow {g : G} {w w' : World} {h h' : Gh} (hg : GI g w h) (hb : RowKit.Below w.heap.size w w') (hL : ∀ b, b < w.heap.size → h'.L b = h.L b)
  (hlim : ∀ b, w'.heap.size ≤ b → h'.L b = 0) (hbe : ∀ d t, (g.bx d t).isSome = true → h'.be d t = h.be d t) (hro : ∀ l, l < g.lp.length → h'.ro l = h.ro l)
  (hga : ∀ i, IsBox i → h'.ga i = h.ga i) (gaBx : ∀ i b d t, h'.ga i = some b → (g.bx d t).isSome = true → h'.be d t ≠ some b)
  (gaInj : ∀ i j b, h'.ga i = some b → h'.ga j = some b → i = j) (gaC : ∀ i b, h'.ga i = some b → ∃ c e, w'.heap[b]? = some (.cells c e (0, 0))) (gaTop : ∀ d t j, g.dp < d → h'.ga (.tmp d t j) = none) :
  GI g w' h' := by
 have hE := ext_grow hb hL hg.lim
 have hga' : ∀ i b, IsBox i → h.ga i = some b → h'.ga i = some b ∧ h'.L b = h.L b ∧ w'.heap[b]? = w.heap[b]? := fun i b hi hib => by
  have hlt := hg.gaLt i b hib
  exact ⟨by rw [hga i hi, hib], hL b hlt, hb.block b hlt⟩
 refine { bx := ?_, inj := ?_, gaBx := gaBx, gaInj := gaInj, gaLt := fun i b hi => by obtain ⟨c, e, hc⟩ := gaC i b hi; exact lt_of_heap hc, gaC := gaC, lim := hlim, lp := ?_, roInj := ?_, gaTop := gaTop }
 ·intro d t bo hbo
  obtain ⟨h1, h2, b, c, e, h3, h4, h5, h6, h7⟩ := hg.bx d t bo hbo
  have hlt := lt_of_heap h4
  refine ⟨h1, h2, b, c, e, ?_, ?_, ?_, h6, ?_⟩
  ·rw [hbe d t (by rw [hbo]; rfl), h3]
  ·rw [hb.block b hlt, h4]
  ·exact RepBx.ext hE (fun d t b hk hh => by rw [hbe d t hk.2]; exact hh) (fun l hl => hro l hl.lt) hga' _ _ h2 h5
  ·rw [hL b hlt, h7]
 ·intro d t d' t' b h1 h2 h3 h4
  rw [hbe d t h1] at h3
  rw [hbe d' t' h2] at h4
  exact hg.inj d t d' t' b h1 h2 h3 h4
 ·intro l r hl
  have hlt : l < g.lp.length := (List.getElem?_eq_some_iff.1 hl).1
  obtain ⟨hp, D, tmps, h1, h2, h3, h4⟩ := hg.lp l r hl
  refine ⟨hp, D, tmps, ?_, ?_, ⟨h3.1, by rw [hro l hlt]; exact h3.2⟩, ?_⟩
  ·rw [hro l hlt, hb.block _ (lt_of_heap h1), h1]
  ·rw [hb.block _ (lt_of_heap h2), h2]
  ·intro t v hv
   obtain ⟨h5, h6⟩ := h4 t v hv
   exact ⟨RepA.ext hE (fun d t b hk hh => by rw [hbe d t hk.2]; exact hh) (fun l' hl' => hro l' hl'.lt) (fun _ _ hh => hh.elim) _ _ h6 h5, h6⟩
 ·intro l l' hl hl' he
  rw [hro l hl, hro l' hl'] at he
  exact hg.roInj l l' hl hl' he
theorem below_alloc (w : World) (o : Obj) : RowKit.Below w.heap.size w (w.alloc o) := (RowKit.Below.refl _ _).alloc (Nat.le_refl _) _
theorem below_drew (w : World) (B : Nat) : RowKit.Below B w w.drew := (RowKit.Below.refl _ _).drew
theorem heap_new (w : World) (o : Obj) : (w.alloc o).heap[w.heap.size]? = some o := by
 show (w.heap.push o)[w.heap.size]? = some o
 simp
theorem FI.tm_grow {nt : Nat} {s : St} {a : Act} {w w' : World} {h h' : Gh} (hf : FI nt s a w h) (hb : RowKit.Below w.heap.size w w') (hL : ∀ b, b < w.heap.size → h'.L b = h.L b)
  (hbe : ∀ d t, (s.g.bx d t).isSome = true → h'.be d t = h.be d t) (hro : ∀ l, l < s.g.lp.length → h'.ro l = h.ro l)
  (hga : ∀ i, TmQ s.fr s.g.dp i → h'.ga i = h.ga i) : ∀ t v, s.tm t = some v → RepA w' h' v (a.tmps.getD t undef) ∧ v.ok (TmQ s.fr s.g.dp) (KG s.g s.g.dp) (YG s.g s.g.dp) := by
 intro t v hv
 obtain ⟨h1, h2⟩ := hf.tm t v hv
 refine ⟨?_, h2⟩
 refine RepA.ext (ext_grow hb hL hf.gi.lim) (fun d t b hk hh => by rw [hbe d t hk.2]; exact hh) (fun l hl => hro l hl.lt) (fun i b hi hib => ?_) _ _ h2 h1
 have hlt := hf.gi.gaLt i b hib
 exact ⟨by rw [hga i hi, hib], hL b hlt, hb.block b hlt⟩
theorem dfr_grow {ds : List Deferred} {w w' : World} (hd : ∀ x ∈ ds, ∀ D, x = { target := .collected D, args := #[] } → w.heap[D]? = some (.deferred (some []))) (hb : RowKit.Below w.heap.size w w') :
  ∀ x ∈ ds, ∀ D, x = ({ target := .collected D, args := #[] } : Deferred) → w'.heap[D]? = some (.deferred (some [])) := by
 intro x hx D h1
 have h2 := hd x hx D h1
 rw [hb.block D (lt_of_heap h2), h2]
theorem Rel.grow {g0 g g' : G} {h0 h h' : Gh} {w0 w w' : World} (hr : Rel g0 h0 w0 g w h) (hg : GI g w h) (hb : RowKit.Below w.heap.size w w') (hL : ∀ b, b < w.heap.size → h'.L b = h.L b)
  (hbx : ∀ d t, (g0.bx d t).isSome = true → (g.bx d t).isSome = true → (g'.bx d t).isSome = true ∧ h'.be d t = h.be d t) (hro : ∀ l, l < g0.lp.length → h'.ro l = h.ro l)
  (hga : ∀ d t j, d ≤ g0.dp → h'.ga (.tmp d t j) = h.ga (.tmp d t j))
  (bxMay : ∀ d t b, (g'.bx d t).isSome = true → h'.be d t = some b → w.heap.size ≤ b ∨ ∃ d' t', (g.bx d' t').isSome = true ∧ h.be d' t' = some b)
  (gaMay : ∀ i b, h'.ga i = some b → w.heap.size ≤ b ∨ h.ga i = some b)
  (lpMay : ∀ l, l < g'.lp.length → w.heap.size ≤ (h'.ro l).1 ∨ (l < g.lp.length ∧ h'.ro l = h.ro l)) (lpLen : g.lp.length ≤ g'.lp.length) : Rel g0 h0 w0 g' w' h' where
 os := hb.os.trans hr.os
 tape := hb.tape.trans hr.tape
 output := hb.output.trans hr.output
 size := Nat.le_trans hr.size hb.size
 ext := hr.ext.trans (ext_grow hb hL hg.lim)
 keep := fun b hlt hm => by
  obtain ⟨a1, a2⟩ := hr.keep b hlt hm
  have hlt' := Nat.lt_of_lt_of_le hlt hr.size
  exact ⟨(hb.block b hlt').trans a1, (hL b hlt').trans a2⟩
 bxs := fun d t hs => by
  obtain ⟨a1, a2⟩ := hr.bxs d t hs
  obtain ⟨b1, b2⟩ := hbx d t hs a1
  exact ⟨b1, b2.trans a2⟩
 ro := fun l hl => (hro l hl).trans (hr.ro l hl)
 ga := fun d t j hd => (hga d t j hd).trans (hr.ga d t j hd)
 bxMay := fun d t b hs hbe => by
  rcases bxMay d t b hs hbe with hh | ⟨d', t', h1, h2⟩
  ·exact .inl (Nat.le_trans hr.size hh)
  ·exact hr.bxMay d' t' b h1 h2
 gaMay := fun i b hi hib => by
  rcases gaMay i b hib with hh | hh
  ·exact .inl (Nat.le_trans hr.size hh)
  ·exact hr.gaMay i b hi hh
 lpMay := fun l hl => by
  rcases lpMay l hl with hh | ⟨h1, h2⟩
  ·exact .inl (Nat.le_trans hr.size hh)
  ·rw [h2]; exact hr.lpMay l h1
 lpLen := Nat.le_trans hr.lpLen lpLen
class Tabs where
 p : World → Prop
 bs : List Nat
 lt : ∀ w, p w → ∀ b ∈ bs, b < w.heap.size
 loc : ∀ w w', (∀ b ∈ bs, w'.heap[b]? = w.heap[b]?) → p w → p w'
def Tb [Tabs] (g : G) (h : Gh) (w : World) : Prop := Tabs.p w ∧ ∀ b ∈ Tabs.bs, ¬ May g h b
theorem Tb.rel [Tabs] {g0 g : G} {h0 h : Gh} {w0 w : World} (ht : Tb g0 h0 w0) (hr : Rel g0 h0 w0 g w h) : Tb g h w := by
 refine ⟨Tabs.loc w0 w (fun b hb => (hr.keep b (Tabs.lt _ ht.1 b hb) (ht.2 b hb)).1) ht.1, fun b hb hm => ?_⟩
 have hlt := Tabs.lt _ ht.1 b hb
 have no : ¬ (w0.heap.size ≤ b ∨ May g0 h0 b) := by
  rintro (h | h)
  ·omega
  ·exact ht.2 b hb h
 rcases hm with ⟨d, t, hs, he⟩ | ⟨i, hi, he⟩ | ⟨l, hl, rfl⟩
 ·exact no (hr.bxMay d t b hs he)
 ·exact no (hr.gaMay i b (fun d t j e => absurd e (hi d t j)) he)
 ·exact no (hr.lpMay l hl)
theorem Tb.may [Tabs] {g g' : G} {h h' : Gh} {w : World} (ht : Tb g h w) (hm : ∀ b, May g' h' b → May g h b) : Tb g' h' w := ⟨ht.1, fun b hb hh => ht.2 b hb (hm b hh)⟩
end Go.Abs
namespace Go.Abs
open Go
set_option linter.unusedVariables false
set_option linter.unusedSimpArgs false
theorem getD_put (a : Act) (d t : Nat) (u : Value) (hd : d < a.tmps.size) : (a.put (some d) u).tmps.getD t undef = if t = d then u else a.tmps.getD t undef := by
 simp only [Act.put, Array.getD_eq_getD_getElem?]
 by_cases h : t = d
 ·subst h; simp [hd]
 ·rw [Array.getElem?_setIfInBounds_ne (Ne.symm h), if_neg h]
theorem upd_some {tm : Nat → Option AV} {d t : Nat} {v v' : AV} (h : upd tm d (some v) t = some v') : (t = d ∧ v' = v) ∨ (t ≠ d ∧ tm t = some v') := by
 unfold upd at h
 by_cases ht : t = d
 ·subst ht; simp at h; exact .inl ⟨rfl, h.symm⟩
 ·rw [if_neg (by simpa using ht)] at h; exact .inr ⟨ht, h⟩
theorem FI.put {nt : Nat} {s : St} {a : Act} {w : World} {h : Gh} (hf : FI nt s a w h) {d : Nat} (hd : d < nt) {v : AV} {u : Value} (hr : RepA w h v u)
  (hok : v.ok (TmQ s.fr s.g.dp) (KG s.g s.g.dp) (YG s.g s.g.dp)) : FI nt { s with tm := upd s.tm d (some v) } (a.put (some d) u) w h where
 size := by simp [Act.put, hf.size]
 tm := fun t v' hv => by
  rw [getD_put a d t u (by rw [hf.size]; exact hd)]
  rcases upd_some hv with ⟨rfl, rfl⟩ | ⟨hne, hv⟩
  ·rw [if_pos rfl]; exact ⟨hr, hok⟩
  ·rw [if_neg hne]; exact hf.tm t v' hv
 gi := hf.gi
 dfr := hf.dfr
section
variable {Q : Id → Prop} {K : Nat → Nat → Prop} {Y : Nat → Prop}
theorem cv_ok {v : Value} {a : AV} (h : cv v = some a) : a.ok Q K Y := by
 obtain ⟨x, rfl⟩ := cv_d h
 simp [AV.ok]
theorem ev_ok {tm : Nat → Option AV} (ht : ∀ t v, tm t = some v → v.ok Q K Y) {x : Operand} {v : AV} (h : ev tm x = some v) : v.ok Q K Y := by
 cases x with
 | tmp t => exact ht t v h
 | const c => exact cv_ok h
 | func f => simp [ev] at h; subst h; simp [AV.ok]
 | global g => simp [ev] at h
theorem oks_get : ∀ {xs : List AV} {i : Nat} {v : AV}, AV.oks Q K Y xs → xs[i]? = some v → v.ok Q K Y
 | [], _, _, _, h => by simp at h
 | x :: xs, i, v, ho, h => by
  simp only [AV.oks] at ho
  cases i with
  | zero => simp at h; subst h; exact ho.1
  | succ i => exact oks_get ho.2 (by simpa using h)
theorem oks_of : ∀ {xs : List AV}, (∀ x ∈ xs, x.ok Q K Y) → AV.oks Q K Y xs
 | [], _ => by simp [AV.oks]
 | x :: xs, h => by
  simp only [AV.oks]
  exact ⟨h x (by simp), oks_of fun y hy => h y (by simp [hy])⟩
theorem oks_mem : ∀ {xs : List AV}, AV.oks Q K Y xs → ∀ x ∈ xs, x.ok Q K Y
 | [], _, x, hx => by simp at hx
 | y :: ys, h, x, hx => by
  simp only [AV.oks] at h
  simp only [List.mem_cons] at hx
  rcases hx with rfl | hx
  ·exact h.1
  ·exact oks_mem h.2 x hx
theorem oks_d (xs : List D) : AV.oks Q K Y (xs.map .d) := oks_of (by intro x hx; simp at hx; obtain ⟨y, _, rfl⟩ := hx; simp [AV.ok])
theorem oks_append {xs ys : List AV} (h1 : AV.oks Q K Y xs) (h2 : AV.oks Q K Y ys) : AV.oks Q K Y (xs ++ ys) := oks_of (by
 intro x hx
 rcases List.mem_append.1 hx with hx | hx
 ·exact oks_mem h1 x hx
 ·exact oks_mem h2 x hx)
theorem semV_d {s : Sem Value} {a : AV} (h : semV s = some a) : ∃ x, a = .d x := by
 cases s with
 | pure v =>
  simp only [semV] at h
  cases hv : vD v with
  | none => simp [hv] at h
  | some x => simp [hv] at h; exact ⟨x, h.symm⟩
 | _ => simp [semV] at h
theorem elem_ok {n : Nat} {e : List D} {a : AV} (h : a.ok Q K Y) : (AV.elem n e a).ok Q K Y := by
 cases a with
 | raw o k i z es =>
  cases o with
  | none => simpa only [AV.elem, AV.ok] using h
  | some m => simp [AV.elem, AV.ok]
 | old o z m => cases o <;> simp [AV.elem, AV.ok]
 | _ => simp [AV.elem, AV.ok]
theorem lenA_ok {T : Nat → Option TI} {E : Operand → Option AV} {c : Call} {v : AV} (hv : lenA T E c = some v) : v.ok Q K Y := by
 unfold lenA opLen extA at hv
 repeat' (split at hv <;> try (cases hv; done))
 all_goals (simp at hv; subst hv; simp [AV.ok])
theorem opP_ok {T : Nat → Option TI} {tm : Nat → Option AV} (ht : ∀ t v, tm t = some v → v.ok Q K Y) {o : Op} {v : AV} (hv : opP T (ev tm) o = some v) : v.ok Q K Y := by
 unfold opP at hv
 split at hv
 ·exact ev_ok ht hv
 ·exact ev_ok ht hv
 ·split at hv
  ·exact ev_ok ht hv
  ·exact ev_ok ht hv
  ·cases hv
 ·split at hv
  ·split at hv
   ·split at hv
    ·simp at hv; subst hv; simp [AV.ok]
    ·cases hv
   ·cases hv
  ·cases hv
 ·split at hv
  ·split at hv
   ·rename_i hx
    simp at hv; subst hv
    have := ev_ok ht hx
    simpa only [AV.ok] using this
   ·split at hv
    ·simp at hv; subst hv; simp [AV.ok]
    ·cases hv
   ·cases hv
  ·cases hv
 ·repeat' (split at hv <;> try (cases hv; done))
  rename_i a hx _ _ _ _ _ _ _ _ _ _ _ _ _
  cases hv
  exact elem_ok (ev_ok ht (by assumption))
 ·repeat' (split at hv <;> try (cases hv; done))
  all_goals (simp at hv; subst hv; simp [AV.ok])
 ·repeat' (split at hv <;> try (cases hv; done))
  ·unfold sliceD at hv
   repeat' (split at hv <;> try (cases hv; done))
   all_goals first
    | (simp at hv; subst hv; simp [AV.ok]; done)
    | (simp at hv; obtain ⟨_, rfl⟩ := hv; simp [AV.ok])
  ·simp at hv; subst hv; simp [AV.ok]
 ·split at hv
  ·rename_i hx
   have := ev_ok ht hx
   simp only [AV.ok] at this
   exact oks_get this hv
  ·cases hv
 ·split at hv
  ·rename_i hx
   cases hv
   exact ev_ok ht hx
  ·rename_i hx
   cases hv
   exact ev_ok ht hx
  ·cases hv
 ·split at hv
  ·split at hv
   ·rename_i hob
    cases hv
    unfold opB at hob
    repeat' (split at hob <;> try (cases hob; done))
    obtain ⟨x, rfl⟩ := semV_d hob
    simp [AV.ok]
   ·unfold eqA at hv
    repeat' (split at hv <;> try (cases hv; done))
    all_goals (cases hv; simp [AV.ok])
  ·cases hv
 ·split at hv
  ·split at hv
   ·obtain ⟨x, rfl⟩ := semV_d hv
    simp [AV.ok]
   ·cases hv
  ·cases hv
 ·repeat' (split at hv <;> try (cases hv; done))
  all_goals (cases hv; simp [AV.ok])
 ·unfold zeroT at hv
  repeat' (split at hv <;> try (cases hv; done))
  all_goals (cases hv; simp [AV.ok, AV.oks])
 ·repeat' (split at hv <;> try (cases hv; done))
  all_goals (cases hv; simp [AV.ok])
 ·exact lenA_ok hv
 ·cases hv
end
def Did (o : Oper) (a : Act) (nx : Next) (a' : Act) : Prop := (∃ u, nx = .value u ∧ a' = a.put o.dst u) ∨ (nx = .skip ∧ a' = a.put o.dst undef)
section
variable {P : Program} {T : Nat → Option TI} {g0 : G} {h0 : Gh} {w0 : World} {nt : Nat}
def Steps1 (P : Program) (nt : Nat) (g0 : G) (h0 : Gh) (w0 : World) (o : Oper) (s' : St) (a : Act) (w : World) : Prop :=
 ∃ nx w' a' h', (execOp a.eval o).run P w = .ok nx w' ∧ Did o a nx a' ∧ FI nt s' a' w' h' ∧ Rel g0 h0 w0 s'.g w' h'
theorem step_value {o : Oper} {d : Nat} (hdst : o.dst = some d) (hd : d < nt) {s : St} {a : Act} {w : World} {h : Gh} (hf : FI nt s a w h) (hr : Rel g0 h0 w0 s.g w h) {v : AV} {u : Value}
  (hrun : (execOp a.eval o).run P w = .ok (.value u) w) (hrep : RepA w h v u) (hok : v.ok (TmQ s.fr s.g.dp) (KG s.g s.g.dp) (YG s.g s.g.dp)) :
  Steps1 P nt g0 h0 w0 o { s with tm := upd s.tm d (some v) } a w :=
 ⟨_, w, _, h, hrun, .inl ⟨u, rfl, rfl⟩, by rw [hdst]; exact hf.put hd hrep hok, hr⟩
theorem loadA_sound (hT : TyOk P T) {g : G} {w : World} {h : Gh} (hg : GI g w h) {t : TypeId} {p v : AV} {pv : Value} {n : Nat} (hv : loadA T g.bx t p = some v) (hp : RepA w h p pv)
  {Q : Id → Prop} {Y : Nat → Prop} (hQ : ∀ i, IsBox i → Q i) (hok : p.ok Q (KG g n) Y) (hY : ∀ l, YG g n l → Y l) :
  ∃ u, (Instr.loadAt t pv).run P w = .ok u w ∧ RepA w h v u ∧ v.ok Q (KG g n) Y := by
 unfold loadA at hv
 cases hti : T t with
 | none => simp [hti] at hv
 | some ti =>
  simp only [hti] at hv
  have hty := hT t ti hti
  obtain ⟨dd, hud, hagg, _⟩ := hty.desc
  split at hv
  ·
   rename_i d u off
   simp only [RepA] at hp
   obtain ⟨b, hb, rfl⟩ := hp
   cases hbo : g.bx d u with
   | none => simp [hbo] at hv
   | some bo =>
    simp only [hbo] at hv
    obtain ⟨hd, hoks, b', c, e, hb', hheap, ⟨hrep, -⟩, h1, hL⟩ := hg.bx d u bo hbo
    rw [hb] at hb'; cases hb'
    have hcell : ∀ k v, c.toList[k]? = some v → w.cell? ⟨b, k, none⟩ = some v := by
     intro k v hk
     simp only [World.cell?, hheap]
     simpa using hk
    split at hv
    ·
     rename_i hat
     cases hds : AV.datas ((bo.cells.drop off).take ti.size) with
     | none => simp [hds] at hv
     | some cs =>
      simp only [hds] at hv
      split at hv
      case isFalse => cases hv
      rename_i hlen
      simp only [Option.some.injEq] at hv; subst hv
      have hlen' : cs.length = ti.size := by simpa using hlen
      have hsub : RepAs w h ((bo.cells.drop off).take ti.size) ((c.toList.drop off).take ti.size) := (hrep.drop).take
      have hvs := RepAs.datas _ _ _ hds hsub
      have hl2 := hvs.length
      refine ⟨.agg ((c.toList.drop off).take ti.size).toArray, ?_, ?_, by simp [AV.ok]⟩
      ·refine Go.run_loadAt_mid w b off t _ dd ?_ hud (by rw [hagg, hat]) ?_
       ·intro j v hj
        rw [List.getElem?_take] at hj
        split at hj
        ·rw [List.getElem?_drop] at hj
         exact hcell (off + j) v hj
        ·cases hj
       ·rw [hty.sizeMap, hl2, hlen']
      ·simp only [RepA, RepV]
       refine ⟨_, rfl, by simpa using hvs, ?_⟩
       intro u hu
       simp only [List.toList_toArray] at hu
       exact h1 u (List.mem_of_mem_drop (List.mem_of_mem_take hu))
    ·
     rename_i hat
     obtain ⟨u', hu', hru⟩ := hrep.get hv
     refine ⟨u', ?_, hru, ?_⟩
     ·have hna : (isAgg t).run P w = .ok false w := by
       unfold isAgg
       rw [Sem.run_bind, run_underlying hud w]
       rw [hat] at hagg
       cases dd <;> simp_all
      have := hcell off u' hu'
      simp [Instr.loadAt, Instr.sureAddr, loadVar, hna, this]
     ·have := oks_get hoks hv
      simp only [AV.ok] at hok
      refine AV.ok.mono hQ (fun d' t' (hk : KG g d d' t') => ⟨Nat.le_trans hk.1 hok.1, hk.2⟩) (fun l (hl : YG g d l) => hY l ?_) _ this
      obtain ⟨r, h1, h2⟩ := hl
      exact ⟨r, h1, Nat.lt_of_lt_of_le h2 hok.1⟩
  ·
   rename_i cs
   simp only [RepA, RepV] at hp
   obtain ⟨b, o, vs, rfl, hrep, hl, hc⟩ := hp
   split at hv
   ·rename_i hat
    split at hv
    case isFalse => cases hv
    rename_i hlen
    have hlen' : ti.size ≤ cs.length := by simpa using hlen
    simp only [Option.some.injEq] at hv; subst hv
    have hvs : RepVs w h.L (cs.take ti.size) (vs.take ti.size) := hrep.take
    have hl2 := hvs.length
    refine ⟨.agg (vs.take ti.size).toArray, ?_, ?_, by simp [AV.ok]⟩
    ·refine Go.run_loadAt_mid w b o t _ dd (hc.take _).range hud (by rw [hagg, hat]) ?_
     rw [hty.sizeMap, hl2]
     simp
     omega
    ·simp only [RepA, RepV]
     refine ⟨_, rfl, by simpa using hvs, ?_⟩
     intro u hu
     simp only [List.toList_toArray] at hu
     exact hc.one u (List.mem_of_mem_take hu)
   ·rename_i hat
    cases hcs : cs[0]? with
    | none => simp [hcs] at hv
    | some x =>
     simp only [hcs, Option.some.injEq] at hv; subst hv
     obtain ⟨u', hu', hru⟩ := hrep.get hcs
     refine ⟨u', ?_, by simpa only [RepA] using hru, by simp [AV.ok]⟩
     have hna : (isAgg t).run P w = .ok false w := by
      unfold isAgg
      rw [Sem.run_bind, run_underlying hud w]
      rw [hat] at hagg
      cases dd <;> simp_all
     have := (hc 0 u' hu').1
     simp only [Nat.add_zero] at this
     simp [Instr.loadAt, Instr.sureAddr, loadVar, hna, this]
  ·cases hv
theorem demBx_some {i : Id} {bx : Nat → Nat → Option Box} {d t : Nat} {bo : Box} (h : demBx i bx d t = some bo) : ∃ b, bx d t = some b ∧ bo = { b with cells := dems i b.cells } := by
 unfold demBx at h
 cases hb : bx d t with
 | none => simp [hb] at h
 | some b => simp [hb] at h; exact ⟨b, rfl, h.symm⟩
theorem demBx_isSome (i : Id) (bx : Nat → Nat → Option Box) (d t : Nat) : (demBx i bx d t).isSome = (bx d t).isSome := by
 unfold demBx
 cases bx d t <;> rfl
theorem demTm_some {i : Id} {tm : Nat → Option AV} {t : Nat} {v : AV} (h : demTm i tm t = some v) : ∃ u, tm t = some u ∧ v = dem i u := by
 unfold demTm at h
 cases hb : tm t with
 | none => simp [hb] at h
 | some b => simp [hb] at h; exact ⟨b, rfl, h.symm⟩
def NoIn (i : Id) (s : St) : Prop :=
 (∀ t v, s.tm t = some v → v.ok (· ≠ i) (fun _ _ => True) (fun _ => True)) ∧ ∀ d t bo, s.g.bx d t = some bo → AV.oks (· ≠ i) (fun _ _ => True) (fun _ => True) bo.cells
mutual
 theorem AV.ok.and {Q Q' : Id → Prop} {K K' : Nat → Nat → Prop} {Y Y' : Nat → Prop} : ∀ (a : AV), a.ok Q K Y → a.ok Q' K' Y' → a.ok (fun i => Q i ∧ Q' i) K Y
  | .d _, _, _ => by simp [AV.ok]
  | .own i _ _, h, h' => by simp only [AV.ok] at h h' ⊢; exact ⟨h, h'⟩
  | .ptr d1 t _, h, _ => by simpa only [AV.ok] using h
  | .fn _ caps, h, _ => by simpa only [AV.ok] using h
  | .tup xs, h, h' => by simp only [AV.ok] at h h' ⊢; exact AV.oks.and xs h h'
  | .yld l, h, _ => by simpa only [AV.ok] using h
  | .raw _ _ i _ _, h, h' => by simp only [AV.ok] at h h' ⊢; exact ⟨h, h'⟩
  | .old _ _ _, _, _ => by simp [AV.ok]
 theorem AV.oks.and {Q Q' : Id → Prop} {K K' : Nat → Nat → Prop} {Y Y' : Nat → Prop} : ∀ (as : List AV), AV.oks Q K Y as → AV.oks Q' K' Y' as → AV.oks (fun i => Q i ∧ Q' i) K Y as
  | [], _, _ => by simp [AV.oks]
  | a :: as, h, h' => by simp only [AV.oks] at h h' ⊢; exact ⟨AV.ok.and a h.1 h'.1, AV.oks.and as h.2 h'.2⟩
end
mutual
 theorem AV.ok.top {Q : Id → Prop} {K : Nat → Nat → Prop} {Y : Nat → Prop} : ∀ (a : AV), a.ok Q K Y → a.ok (fun _ => True) (fun _ _ => True) (fun _ => True)
  | a, h => AV.ok.mono (fun _ _ => trivial) (fun _ _ _ => trivial) (fun _ _ => trivial) a h
end
theorem NoIn.dem {i : Id} (j : Id) {s : St} (h : NoIn i s) : NoIn i (demSt j s) := by
 refine ⟨fun t v hv => ?_, fun d t bo hb => ?_⟩
 ·obtain ⟨u, hu, rfl⟩ := demTm_some hv
  exact AV.ok.mono (fun _ h => h.1) (fun _ _ h => h) (fun _ h => h) _ (AV.ok.dem j u (h.1 t u hu))
 ·obtain ⟨b, hb', rfl⟩ := demBx_some hb
  exact AV.oks.mono (fun _ h => h.1) (fun _ _ h => h) (fun _ h => h) _ (AV.oks.dem j _ (h.2 d t b hb'))
theorem FI.dem {s : St} {a : Act} {w : World} {h : Gh} (hf : FI nt s a w h) (i : Id) : FI nt (demSt i s) a w h ∧ NoIn i (demSt i s) := by
 have hK : ∀ n d t, KG s.g n d t → KG (demSt i s).g n d t := fun n d t hk => ⟨hk.1, by
  show (demBx i s.g.bx d t).isSome = true
  rw [demBx_isSome]; exact hk.2⟩
 refine ⟨⟨hf.size, ?_, ?_, hf.dfr⟩, ?_, ?_⟩
 ·intro t v hv
  obtain ⟨u, hu, rfl⟩ := demTm_some hv
  obtain ⟨h1, h2⟩ := hf.tm t u hu
  exact ⟨h1.dem i u _, AV.ok.mono (fun _ h => h.1) (fun d t hk => hK _ d t hk) (fun _ h => h) _ (AV.ok.dem i u h2)⟩
 ·refine { bx := ?_, inj := ?_, gaBx := ?_, gaInj := hf.gi.gaInj, gaLt := hf.gi.gaLt, gaC := hf.gi.gaC, lim := hf.gi.lim, lp := ?_, roInj := hf.gi.roInj, gaTop := hf.gi.gaTop }
  ·intro d t bo hb
   obtain ⟨b, hb', rfl⟩ := demBx_some hb
   obtain ⟨h1, h2, b', c, e, h3, h4, h5, h6, h7⟩ := hf.gi.bx d t b hb'
   exact ⟨h1, AV.oks.mono (fun _ h => h.1) (fun d t hk => hK _ d t hk) (fun _ h => h) _ (AV.oks.dem i _ h2), b', c, e, h3, h4, RepBx.dem i _ _ h5, h6, h7⟩
  ·intro d t d' t' b h1 h2 h3 h4
   simp only [demSt, demBx_isSome] at h1 h2
   exact hf.gi.inj d t d' t' b h1 h2 h3 h4
  ·intro j b d t h1 h2
   simp only [demSt, demBx_isSome] at h2
   exact hf.gi.gaBx j b d t h1 h2
  ·intro l r hl
   obtain ⟨hp, D, tmps, h1, h2, h3, h4⟩ := hf.gi.lp l r hl
   refine ⟨hp, D, tmps, h1, h2, h3, fun t v hv => ?_⟩
   obtain ⟨h5, h6⟩ := h4 t v hv
   exact ⟨h5, AV.ok.mono (fun _ h => h) (fun d t hk => hK _ d t hk) (fun _ h => h) _ h6⟩
 ·intro t v hv
  obtain ⟨u, hu, rfl⟩ := demTm_some hv
  exact AV.ok.mono (fun _ h => h.2) (fun _ _ h => h) (fun _ h => h) _ (AV.ok.dem i u (AV.ok.top u (hf.tm t u hu).2))
 ·intro d t bo hb
  obtain ⟨b, hb', rfl⟩ := demBx_some hb
  obtain ⟨_, h2, _⟩ := hf.gi.bx d t b hb'
  exact AV.oks.mono (fun _ h => h.2) (fun _ _ h => h) (fun _ h => h) _ (AV.oks.dem i _ (AV.oks.mono (fun _ _ => trivial) (fun _ _ _ => trivial) (fun _ _ => trivial) _ h2))
theorem Rel.dem {s : St} {w : World} {h : Gh} (hr : Rel g0 h0 w0 s.g w h) (i : Id) : Rel g0 h0 w0 (demSt i s).g w h :=
 {hr with
  bxs := fun d t hs => by
   obtain ⟨a1, a2⟩ := hr.bxs d t hs
   exact ⟨by show (demBx i s.g.bx d t).isSome = true; rw [demBx_isSome]; exact a1, a2⟩
  bxMay := fun d t b hs hb => hr.bxMay d t b (by simpa only [demSt, demBx_isSome] using hs) hb }
def renGa (ga : Id → Option Nat) (i j : Id) : Id → Option Nat := fun k => if k = j then ga i else if k = i then none else ga k
theorem Owned.ren {w : World} {h : Gh} {i j : Id} {sz : Nat} {es : List (List D)} {v : Value} (hr : RepA w h (.own i sz es) v) : RepA w { h with ga := renGa h.ga i j } (.own j sz es) v := by
 simp only [RepA] at hr ⊢
 rcases hr with hr | ⟨b, n, c, vs, cc, e, h1, h2, h3, h4, h5, h6, h7⟩
 ·exact .inl hr
 ·exact .inr ⟨b, n, c, vs, cc, e, h1, h2, h3, h4, h5, by simp [renGa, h6], h7⟩
theorem RawRow.ren {w : World} {h : Gh} {i j : Id} {o : Option Nat} {k sz : Nat} {es : List (List D)} {v : Value} (hr : RepA w h (.raw o k i sz es) v) : RepA w { h with ga := renGa h.ga i j } (.raw o k j sz es) v := by
 simp only [RepA] at hr ⊢
 rcases hr with hr | hr | ⟨b, n, c, vs, cc, e, h1, h2, h3, h4, h4', h5, h6, h7, h8⟩
 ·exact .inl hr
 ·exact .inr (.inl hr)
 ·exact .inr (.inr ⟨b, n, c, vs, cc, e, h1, h2, h3, h4, h4', h5, h6, by simp [renGa, h7], h8⟩)
theorem FI.ren {s : St} {a : Act} {w : World} {h : Gh} (hf : FI nt s a w h) {i j : Id} (hi : NoIn i s) (hj : NoIn j s) (hjd : ∀ d t k, j = .tmp d t k → d ≤ s.g.dp) :
  FI nt s a w { h with ga := renGa h.ga i j } := by
 have hga : ∀ k b, (k ≠ i ∧ k ≠ j) → h.ga k = some b → renGa h.ga i j k = some b ∧ h.L b = h.L b ∧ w.heap[b]? = w.heap[b]? := fun k b hk hb => by
  refine ⟨?_, rfl, rfl⟩
  unfold renGa
  rw [if_neg hk.2, if_neg hk.1, hb]
 have inv : ∀ k b, renGa h.ga i j k = some b → (k = j ∧ h.ga i = some b) ∨ (k ≠ j ∧ k ≠ i ∧ h.ga k = some b) := by
  intro k b hk
  unfold renGa at hk
  split at hk
  ·rename_i e; exact .inl ⟨e, hk⟩
  ·split at hk
   ·cases hk
   ·rename_i h1 h2; exact .inr ⟨h1, h2, hk⟩
 refine ⟨hf.size, ?_, ?_, hf.dfr⟩
 ·intro t v hv
  obtain ⟨h1, h2⟩ := hf.tm t v hv
  exact ⟨RepA.ext (h := h) (h' := { h with ga := renGa h.ga i j }) (Ext.refl w h.L) (fun _ _ _ _ h => h) (fun _ _ => rfl) hga v _ (AV.ok.and v (AV.ok.mono (fun _ h => h) (fun _ _ h => h) (fun _ h => h) _ (hi.1 t v hv)) (hj.1 t v hv)) h1, h2⟩
 ·refine { bx := ?_, inj := hf.gi.inj, gaBx := ?_, gaInj := ?_, gaLt := ?_, gaC := ?_, lim := hf.gi.lim, lp := ?_, roInj := hf.gi.roInj, gaTop := ?_ }
  ·intro d t bo hb
   obtain ⟨h1, h2, b', c, e, h3, h4, h5, h6, h7⟩ := hf.gi.bx d t bo hb
   refine ⟨h1, h2, b', c, e, h3, h4, ?_, h6, h7⟩
   exact RepBx.ext (h := h) (h' := { h with ga := renGa h.ga i j }) (Ext.refl w h.L) (fun _ _ _ _ h => h) (fun _ _ => rfl) hga _ _ (AV.oks.and _ (hi.2 d t bo hb) (hj.2 d t bo hb)) h5
  ·intro k b d t hk hs
   rcases inv k b hk with ⟨_, h1⟩ | ⟨_, _, h1⟩
   ·exact hf.gi.gaBx _ b d t h1 hs
   ·exact hf.gi.gaBx _ b d t h1 hs
  ·intro k k' b hk hk'
   rcases inv k b hk with ⟨rfl, h1⟩ | ⟨a1, a2, h1⟩ <;> rcases inv k' b hk' with ⟨rfl, h2⟩ | ⟨b1, b2, h2⟩
   ·rfl
   ·exact absurd (hf.gi.gaInj _ _ b h2 h1) b2
   ·exact absurd (hf.gi.gaInj _ _ b h1 h2) a2
   ·exact hf.gi.gaInj _ _ b h1 h2
  ·intro k b hk
   rcases inv k b hk with ⟨_, h1⟩ | ⟨_, _, h1⟩
   ·exact hf.gi.gaLt _ b h1
   ·exact hf.gi.gaLt _ b h1
  ·intro k b hk
   rcases inv k b hk with ⟨_, h1⟩ | ⟨_, _, h1⟩
   ·exact hf.gi.gaC _ b h1
   ·exact hf.gi.gaC _ b h1
  ·intro l r hl
   obtain ⟨hp, D, tmps, h1, h2, h3, h4⟩ := hf.gi.lp l r hl
   refine ⟨hp, D, tmps, h1, h2, h3, fun t v hv => ?_⟩
   obtain ⟨h5, h6⟩ := h4 t v hv
   exact ⟨RepA.ext (h := h) (h' := { h with ga := renGa h.ga i j }) (Ext.refl w h.L) (fun _ _ _ _ h => h) (fun _ _ => rfl) (fun _ _ h => h.elim) _ _ h6 h5, h6⟩
  ·intro d t k hd
   show renGa h.ga i j (.tmp d t k) = none
   unfold renGa
   split
   ·rename_i e; exact absurd (hjd d t k e.symm) (by omega)
   ·split
    ·rfl
    ·exact hf.gi.gaTop d t k hd
mutual
 theorem AV.ok.renA {Q Q' : Id → Prop} {K : Nat → Nat → Prop} {Y : Nat → Prop} {i nm : Id} (hQ : ∀ j, Q j → Q' j) (hn : Q' nm) : ∀ (a : AV), a.ok Q K Y → (renA i nm a).ok Q' K Y
  | .d _, _ => by simp [Go.Abs.renA, AV.ok]
  | .own j _ _, h => by
   simp only [Go.Abs.renA, AV.ok] at h ⊢
   split
   ·exact hn
   ·exact hQ _ h
  | .ptr _ _ _, h => by simpa only [Go.Abs.renA, AV.ok] using h
  | .fn _ _, h => by simpa only [Go.Abs.renA, AV.ok] using h
  | .tup xs, h => by simp only [Go.Abs.renA, AV.ok] at h ⊢; exact AV.oks.renA hQ hn xs h
  | .yld _, h => by simpa only [Go.Abs.renA, AV.ok] using h
  | .old _ _ _, _ => by simp [Go.Abs.renA, AV.ok]
  | .raw _ _ j _ _, h => by
   simp only [Go.Abs.renA, AV.ok] at h ⊢
   split
   ·exact hn
   ·exact hQ _ h
 theorem AV.oks.renA {Q Q' : Id → Prop} {K : Nat → Nat → Prop} {Y : Nat → Prop} {i nm : Id} (hQ : ∀ j, Q j → Q' j) (hn : Q' nm) : ∀ (as : List AV), AV.oks Q K Y as → AV.oks Q' K Y (renAs i nm as)
  | [], _ => by simp [renAs, AV.oks]
  | a :: as, h => by simp only [renAs, AV.oks] at h ⊢; exact ⟨AV.ok.renA hQ hn a h.1, AV.oks.renA hQ hn as h.2⟩
end
mutual
 theorem RepA.renA {w : World} {h : Gh} {i nm : Id} {K : Nat → Nat → Prop} {Y : Nat → Prop} : ∀ (a : AV) (v : Value), a.ok (· ≠ nm) K Y → RepA w h a v → RepA w { h with ga := renGa h.ga i nm } (renA i nm a) v
  | .d _, v, _, hr => by simpa only [Go.Abs.renA, RepA] using hr
  | .ptr _ _ _, v, _, hr => by simpa only [Go.Abs.renA, RepA] using hr
  | .yld _, v, _, hr => by simpa only [Go.Abs.renA, RepA] using hr
  | .old _ _ _, v, _, hr => by simpa only [Go.Abs.renA, RepA] using hr
  | .fn f caps, v, hok, hr => by
   simp only [Go.Abs.renA, RepA, AV.ok] at hr hok ⊢
   obtain ⟨cv, rfl, hcv⟩ := hr
   exact ⟨cv, rfl, RepAs.ext (h := h) (h' := { h with ga := renGa h.ga i nm }) (Ext.refl w h.L) (fun _ _ _ _ h => h) (fun _ _ => rfl) (fun _ _ h => h.elim) caps _ hok hcv⟩
  | .tup xs, v, hok, hr => by
   simp only [Go.Abs.renA, RepA, AV.ok] at hr hok ⊢
   obtain ⟨cv, rfl, hcv⟩ := hr
   exact ⟨cv, rfl, RepAs.renA xs _ hok hcv⟩
  | .own j z es, v, hok, hr => by
   simp only [Go.Abs.renA, AV.ok] at hok ⊢
   split
   ·rename_i e; subst e; exact Owned.ren hr
   ·rename_i hne
    refine RepA.ext (h := h) (h' := { h with ga := renGa h.ga i nm }) (Q := (· = j)) (K := fun _ _ => True) (Y := fun _ => True) (Ext.refl w h.L) (fun _ _ _ _ h => h) (fun _ _ => rfl) ?_ (.own j z es) v (by simp [AV.ok]) hr
    rintro k b rfl hb
    exact ⟨by show renGa h.ga i nm k = _; unfold renGa; rw [if_neg hok, if_neg (fun e => hne e.symm), hb], rfl, rfl⟩
  | .raw o k' j z es, v, hok, hr => by
   simp only [Go.Abs.renA, AV.ok] at hok ⊢
   split
   ·rename_i e; subst e; exact RawRow.ren hr
   ·rename_i hne
    refine RepA.ext (h := h) (h' := { h with ga := renGa h.ga i nm }) (Q := (· = j)) (K := fun _ _ => True) (Y := fun _ => True) (Ext.refl w h.L) (fun _ _ _ _ h => h) (fun _ _ => rfl) ?_ (.raw o k' j z es) v (by simp [AV.ok]) hr
    rintro k b rfl hb
    exact ⟨by show renGa h.ga i nm k = _; unfold renGa; rw [if_neg hok, if_neg (fun e => hne e.symm), hb], rfl, rfl⟩
 theorem RepAs.renA {w : World} {h : Gh} {i nm : Id} {K : Nat → Nat → Prop} {Y : Nat → Prop} : ∀ (as : List AV) (vs : List Value), AV.oks (· ≠ nm) K Y as → RepAs w h as vs → RepAs w { h with ga := renGa h.ga i nm } (renAs i nm as) vs
  | [], vs, _, hr => by simpa only [renAs, RepAs] using hr
  | a :: as, vs, hok, hr => by
   simp only [renAs, RepAs, AV.oks] at hr hok ⊢
   obtain ⟨u, us, rfl, h1, h2⟩ := hr
   exact ⟨u, us, rfl, RepA.renA a u hok.1 h1, RepAs.renA as us hok.2 h2⟩
end
theorem renAs_get (i nm : Id) : ∀ (as : List AV) (k : Nat), (renAs i nm as)[k]? = (as[k]?).map (renA i nm)
 | [], k => by simp [renAs]
 | a :: as, 0 => by simp [renAs]
 | a :: as, k + 1 => by simp [renAs, renAs_get i nm as k]
theorem RepBx.renA {w : World} {h : Gh} {ty : Nat × Nat} {i nm : Id} {K : Nat → Nat → Prop} {Y : Nat → Prop} (as : List AV) (vs : List Value) (ho : AV.oks (· ≠ nm) K Y as) (hr : RepBx w h ty as vs) : RepBx w { h with ga := renGa h.ga i nm } ty (renAs i nm as) vs := by
 refine ⟨RepAs.renA as vs ho hr.1, fun ht j sz es v hi hv => ?_⟩
 rw [renAs_get] at hi
 cases ha : as[1]? with
 | none => rw [ha] at hi; cases hi
 | some a =>
  rw [ha] at hi
  simp only [Option.map_some, Option.some.injEq] at hi
  cases a with
  | own k z es' =>
   have hk : k ≠ nm := by have := oks_at ho ha; simpa only [AV.ok] using this
   simp only [Abs.renA, AV.own.injEq] at hi
   obtain ⟨hj, rfl, rfl⟩ := hi
   rcases hr.2 ht _ _ _ v ha hv with h1 | ⟨b, n, c, cc, h1, h2, h3, h4, h5⟩
   ·exact .inl h1
   ·refine .inr ⟨b, n, c, cc, h1, ?_, h3, h4, h5⟩
    show renGa h.ga i nm j = some b
    unfold renGa
    split at hj
    ·rename_i e; rw [← hj, if_pos rfl, e]; exact h2
    ·rename_i e; rw [← hj, if_neg hk, if_neg (fun q => e q.symm)]; exact h2
  | raw o k j' z es' => simp only [Abs.renA] at hi; cases hi
  | _ => simp only [Abs.renA] at hi; cases hi
theorem renBx_some {i nm : Id} {bx : Nat → Nat → Option Box} {d t : Nat} {bo : Box} (h : renBx i nm bx d t = some bo) : ∃ b, bx d t = some b ∧ bo = { b with cells := renAs i nm b.cells } := by
 unfold renBx at h
 cases hb : bx d t with
 | none => simp [hb] at h
 | some b => simp [hb] at h; exact ⟨b, rfl, h.symm⟩
theorem renBx_isSome (i nm : Id) (bx : Nat → Nat → Option Box) (d t : Nat) : (renBx i nm bx d t).isSome = (bx d t).isSome := by
 unfold renBx; cases bx d t <;> rfl
theorem renTm_some {i nm : Id} {tm : Nat → Option AV} {t : Nat} {v : AV} (h : renTm i nm tm t = some v) : ∃ u, tm t = some u ∧ v = renA i nm u := by
 unfold renTm at h
 cases hb : tm t with
 | none => simp [hb] at h
 | some b => simp [hb] at h; exact ⟨b, rfl, h.symm⟩
theorem noIn_dem {i j : Id} {s : St} (h : NoIn j s) : NoIn j (demSt i s) := by
 refine ⟨fun t v hv => ?_, fun d t bo hb => ?_⟩
 ·obtain ⟨u, hu, rfl⟩ := demTm_some hv
  exact AV.ok.mono (fun _ h => h.1) (fun _ _ h => h) (fun _ h => h) _ (AV.ok.dem i u (h.1 t u hu))
 ·obtain ⟨b, hb', rfl⟩ := demBx_some hb
  exact AV.oks.mono (fun _ h => h.1) (fun _ _ h => h) (fun _ h => h) _ (AV.oks.dem i _ (h.2 d t b hb'))
theorem FI.renAll {s : St} {a : Act} {w : World} {h : Gh} (hf : FI nt s a w h) {i nm : Id} (hn : NoIn nm s) (hb : IsBox nm) : FI nt (renSt i nm s) a w { h with ga := renGa h.ga i nm } := by
 obtain ⟨f1, n1⟩ := hf.dem i
 have f2 := f1.ren n1 (noIn_dem hn) (fun d t k e => by rw [e] at hb; exact hb.elim)
 have hQ : TmQ s.fr s.g.dp nm := by cases nm <;> first | trivial | exact hb.elim
 have hK : ∀ n d t, KG s.g n d t → KG (renSt i nm s).g n d t := fun n d t hk => ⟨hk.1, by
  show (renBx i nm s.g.bx d t).isSome = true
  rw [renBx_isSome]; exact hk.2⟩
 have hK2 : ∀ n d t, KG (demSt i s).g n d t → KG (renSt i nm s).g n d t := fun n d t hk => ⟨hk.1, by
  show (renBx i nm s.g.bx d t).isSome = true
  have := hk.2
  simp only [demSt, demBx_isSome] at this
  rw [renBx_isSome]; exact this⟩
 refine ⟨hf.size, ?_, ?_, hf.dfr⟩
 ·intro t v hv
  obtain ⟨u, hu, rfl⟩ := renTm_some hv
  obtain ⟨h1, h2⟩ := hf.tm t u hu
  exact ⟨RepA.renA u _ (hn.1 t u hu) h1, AV.ok.mono (fun _ h => h) (fun d t hk => hK _ d t hk) (fun _ h => h) _ (AV.ok.renA (fun _ h => h) hQ u h2)⟩
 ·refine { bx := ?_, inj := ?_, gaBx := ?_, gaInj := f2.gi.gaInj, gaLt := f2.gi.gaLt, gaC := f2.gi.gaC, lim := f2.gi.lim, lp := ?_, roInj := f2.gi.roInj, gaTop := f2.gi.gaTop }
  ·intro d t bo hbo
   obtain ⟨b, hb', rfl⟩ := renBx_some hbo
   obtain ⟨h1, h2, b', c, e, h3, h4, h5, h6, h7⟩ := hf.gi.bx d t b hb'
   exact ⟨h1, AV.oks.mono (fun _ h => h) (fun d t hk => hK _ d t hk) (fun _ h => h) _ (AV.oks.renA (fun _ h => h) hb _ h2), b', c, e, h3, h4, RepBx.renA _ _ (hn.2 d t b hb') h5, h6, h7⟩
  ·intro d t d' t' b h1 h2 h3 h4
   simp only [renSt, renBx_isSome] at h1 h2
   exact f2.gi.inj d t d' t' b (by simpa only [demSt, demBx_isSome] using h1) (by simpa only [demSt, demBx_isSome] using h2) h3 h4
  ·intro k b d t hk hs
   simp only [renSt, renBx_isSome] at hs
   exact f2.gi.gaBx k b d t hk (by simpa only [demSt, demBx_isSome] using hs)
  ·intro l r hl
   obtain ⟨hp, D, tmps, h1, h2, h3, h4⟩ := f2.gi.lp l r hl
   refine ⟨hp, D, tmps, h1, h2, h3, fun t v hv => ?_⟩
   obtain ⟨h5, h6⟩ := h4 t v hv
   exact ⟨h5, AV.ok.mono (fun _ h => h) (fun d t hk => hK2 _ d t hk) (fun _ h => h) _ h6⟩
theorem Rel.ren {s : St} {w : World} {h : Gh} (hr : Rel g0 h0 w0 s.g w h) {i j : Id} (hi : ∀ d t k, i = .tmp d t k → g0.dp < d) (hj : ∀ d t k, j = .tmp d t k → g0.dp < d) :
  Rel g0 h0 w0 s.g w { h with ga := renGa h.ga i j } :=
 {hr with
  ga := fun d t k hd => by
   rw [← hr.ga d t k hd]
   show renGa h.ga i j (.tmp d t k) = _
   unfold renGa
   rw [if_neg (fun e => by have := hj d t k e.symm; omega), if_neg (fun e => by have := hi d t k e.symm; omega)]
  gaMay := fun k b hk hb => by
   unfold renGa at hb
   simp only at hb
   split at hb
   ·exact hr.gaMay i b hi hb
   ·split at hb
    ·cases hb
    ·exact hr.gaMay k b hk hb }
theorem Rel.renSt {s : St} {w : World} {h : Gh} (hr : Rel g0 h0 w0 s.g w h) {i j : Id} (hi : ∀ d t k, i = .tmp d t k → g0.dp < d) (hj : ∀ d t k, j = .tmp d t k → g0.dp < d) :
  Rel g0 h0 w0 (renSt i j s).g w { h with ga := renGa h.ga i j } :=
 {hr.ren hi hj with
  bxs := fun d t hs => by
   obtain ⟨a1, a2⟩ := hr.bxs d t hs
   exact ⟨by show (renBx i j s.g.bx d t).isSome = true; rw [renBx_isSome]; exact a1, a2⟩
  bxMay := fun d t b hs hb => hr.bxMay d t b (by simpa only [Go.Abs.renSt, renBx_isSome] using hs) hb }
def beNew (be : Nat → Nat → Option Nat) (dp dst n : Nat) : Nat → Nat → Option Nat := fun d u => if d = dp ∧ u = dst then some n else be d u
theorem beNew_old {be : Nat → Nat → Option Nat} {dp dst n d u : Nat} (h : ¬ (d = dp ∧ u = dst)) : beNew be dp dst n d u = be d u := by
 unfold beNew; rw [if_neg h]
theorem bxNew_eq {bx : Nat → Nat → Option Box} {dp dst : Nat} {b : Box} {d u : Nat} :
  (if Nat.beq d dp && Nat.beq u dst then some b else bx d u) = if d = dp ∧ u = dst then some b else bx d u := by
 by_cases h : d = dp ∧ u = dst
 ·rw [if_pos (by simp [h.1, h.2]), if_pos h]
 ·rw [if_neg (by simpa using h), if_neg h]
theorem FI.newBox {s : St} {a : Act} {w : World} {h : Gh} (hf : FI nt s a w h) (hr : Rel g0 h0 w0 s.g w h) {dst : Nat} (hnone : s.g.bx s.g.dp dst = none) (hdst : dst < nt) (hd0 : g0.dp < s.g.dp)
  {cs : List AV} {c : Array Value} {e : TypeId} {ty : Nat × Nat} (hty : ty.1 = 0 ∨ ty.1 = e) (hrep : RepBx w h ty cs c.toList) (hok : AV.oks IsBox (KG s.g s.g.dp) (YG s.g s.g.dp) cs) (h1 : ∀ u ∈ c.toList, u.oneCell' = true) :
  FI nt { tm := upd s.tm dst (some (.ptr s.g.dp dst 0)), fr := s.fr, g := { s.g with bx := fun d u => if Nat.beq d s.g.dp && Nat.beq u dst then some { cells := cs, frz := false, ty := ty } else s.g.bx d u } }
    (a.put (some dst) (.pointer (some ⟨w.heap.size, 0, none⟩))) (w.alloc (.cells c e (0, 0))) { h with be := beNew h.be s.g.dp dst w.heap.size } ∧
   Rel g0 h0 w0 { s.g with bx := fun d u => if Nat.beq d s.g.dp && Nat.beq u dst then some { cells := cs, frz := false, ty := ty } else s.g.bx d u } (w.alloc (.cells c e (0, 0))) { h with be := beNew h.be s.g.dp dst w.heap.size } := by
 have hb := below_alloc w (.cells c e (0, 0))
 have hold : ∀ d t, (s.g.bx d t).isSome = true → ¬ (d = s.g.dp ∧ t = dst) := by
  intro d t hs hh
  rw [hh.1, hh.2, hnone] at hs
  cases hs
 have hbe : ∀ d t, (s.g.bx d t).isSome = true → beNew h.be s.g.dp dst w.heap.size d t = h.be d t := fun d t hs => beNew_old (hold d t hs)
 have hsz : (w.alloc (.cells c e (0, 0))).heap.size = w.heap.size + 1 := by simp
 have hG : GI s.g (w.alloc (.cells c e (0, 0))) { h with be := beNew h.be s.g.dp dst w.heap.size } :=
  hf.gi.grow (h' := { h with be := beNew h.be s.g.dp dst w.heap.size }) hb (fun _ _ => rfl) (fun b hh => hf.gi.lim b (by rw [hsz] at hh; omega)) hbe (fun _ _ => rfl) (fun _ _ => rfl)
   (fun i b d t h1 h2 => by show beNew h.be s.g.dp dst w.heap.size d t ≠ some b; rw [hbe d t h2]; exact hf.gi.gaBx i b d t h1 h2)
   hf.gi.gaInj (fun i b hi => by obtain ⟨c, e, hc⟩ := hf.gi.gaC i b hi; exact ⟨c, e, by rw [hb.block b (lt_of_heap hc), hc]⟩) hf.gi.gaTop
 have hmono : ∀ n d t, KG s.g n d t → KG { s.g with bx := fun d u => if Nat.beq d s.g.dp && Nat.beq u dst then some { cells := cs, frz := false, ty := ty } else s.g.bx d u } n d t := by
  intro n d t hk
  refine ⟨hk.1, ?_⟩
  show (if Nat.beq d s.g.dp && Nat.beq t dst then some ({ cells := cs, frz := false, ty := ty } : Box) else s.g.bx d t).isSome = true
  split
  ·rfl
  ·exact hk.2
 have hcases : ∀ d t bo, (if Nat.beq d s.g.dp && Nat.beq t dst then some ({ cells := cs, frz := false, ty := ty } : Box) else s.g.bx d t) = some bo → (d = s.g.dp ∧ t = dst ∧ bo = { cells := cs, frz := false, ty := ty }) ∨ s.g.bx d t = some bo := by
  intro d t bo hh
  rw [bxNew_eq] at hh
  split at hh
  ·rename_i hdt
   cases hh
   exact .inl ⟨hdt.1, hdt.2, rfl⟩
  ·exact .inr hh
 have hE : Ext w h.L (w.alloc (.cells c e (0, 0))) h.L := ext_grow hb (fun _ _ => rfl) hf.gi.lim
 have hga : ∀ i b, h.ga i = some b → h.ga i = some b ∧ h.L b = h.L b ∧ (w.alloc (.cells c e (0, 0))).heap[b]? = w.heap[b]? := fun i b hi => ⟨hi, rfl, hb.block b (hf.gi.gaLt i b hi)⟩
 refine ⟨⟨by simp [Act.put, hf.size], ?_, ?_, dfr_grow hf.dfr hb⟩, ?_⟩
 ·intro t v hv
  rw [getD_put a dst t _ (by rw [hf.size]; exact hdst)]
  rcases upd_some hv with ⟨rfl, rfl⟩ | ⟨hne, hv⟩
  ·rw [if_pos rfl]
   refine ⟨?_, ?_⟩
   ·simp only [RepA]
    exact ⟨w.heap.size, by simp [beNew], rfl⟩
   ·simp only [AV.ok]
    refine ⟨Nat.le_refl _, ?_⟩
    simp
  ·rw [if_neg hne]
   obtain ⟨h5, h6⟩ := hf.tm t v hv
   exact ⟨RepA.ext (h' := { h with be := beNew h.be s.g.dp dst w.heap.size }) hE (fun d t b hk hh => by show beNew h.be s.g.dp dst w.heap.size d t = some b; rw [hbe d t hk.2]; exact hh) (fun _ _ => rfl) (fun i b _ hi => hga i b hi) v _ h6 h5,
    AV.ok.mono (fun _ h => h) (fun d t hk => hmono _ d t hk) (fun _ h => h) v h6⟩
 ·refine { bx := ?_, inj := ?_, gaBx := ?_, gaInj := hG.gaInj, gaLt := hG.gaLt, gaC := hG.gaC, lim := hG.lim, lp := ?_, roInj := hG.roInj, gaTop := hG.gaTop }
  ·intro d t bo hbo
   rcases hcases d t bo hbo with ⟨rfl, rfl, rfl⟩ | hbo'
   ·refine ⟨Nat.le_refl _, AV.oks.mono (fun _ h => h) (fun d t hk => hmono _ d t hk) (fun _ h => h) _ hok, w.heap.size, c, ⟨e, hty⟩, by simp [beNew], heap_new w _, ?_, h1, ?_⟩
    ·exact RepBx.ext (h' := { h with be := beNew h.be s.g.dp t w.heap.size }) hE (fun d t b hk hh => by show beNew h.be _ _ w.heap.size d t = some b; rw [hbe d t hk.2]; exact hh) (fun _ _ => rfl) (fun i b _ hi => hga i b hi) _ _ hok hrep
    ·simpa using hf.gi.lim _ (Nat.le_refl _)
   ·obtain ⟨h2, h3, rest⟩ := hG.bx d t bo hbo'
    exact ⟨h2, AV.oks.mono (fun _ h => h) (fun d t hk => hmono _ d t hk) (fun _ h => h) _ h3, rest⟩
  ·intro d t d' t' b h2 h3 h4 h5
   obtain ⟨bo, hbo⟩ := Option.isSome_iff_exists.1 h2
   obtain ⟨bo', hbo'⟩ := Option.isSome_iff_exists.1 h3
   have hlt : ∀ d t bo b, s.g.bx d t = some bo → beNew h.be s.g.dp dst w.heap.size d t = some b → b < w.heap.size := by
    intro d t bo b hh hb'
    rw [hbe d t (by rw [hh]; rfl)] at hb'
    obtain ⟨_, _, b2, c2, e2, h7, h8, _⟩ := hf.gi.bx d t bo hh
    rw [hb'] at h7; cases h7
    exact lt_of_heap h8
   rcases hcases d t bo hbo with ⟨rfl, rfl, rfl⟩ | hq <;> rcases hcases d' t' bo' hbo' with ⟨e1, e2, rfl⟩ | hq'
   ·exact ⟨e1.symm, e2.symm⟩
   ·have := hlt d' t' bo' b hq' h5
    simp [beNew] at h4
    omega
   ·have := hlt d t bo b hq h4
    subst e1 e2
    simp [beNew] at h5
    omega
   ·exact hG.inj d t d' t' b (by rw [hq]; rfl) (by rw [hq']; rfl) h4 h5
  ·intro i b d t hi hs
   obtain ⟨bo, hbo⟩ := Option.isSome_iff_exists.1 hs
   rcases hcases d t bo hbo with ⟨rfl, rfl, rfl⟩ | hq
   ·have := hf.gi.gaLt i b hi
    simp [beNew]
    omega
   ·exact hG.gaBx i b d t hi (by rw [hq]; rfl)
  ·intro l r hl
   obtain ⟨hp, D, tmps, h2, h3, h4, h5⟩ := hG.lp l r hl
   refine ⟨hp, D, tmps, h2, h3, h4, fun t v hv => ?_⟩
   obtain ⟨h6, h7⟩ := h5 t v hv
   exact ⟨h6, AV.ok.mono (fun _ h => h) (fun d t hk => hmono _ d t hk) (fun _ h => h) _ h7⟩
 ·refine hr.grow (h' := { h with be := beNew h.be s.g.dp dst w.heap.size }) hf.gi hb (fun _ _ => rfl) ?_ (fun _ _ => rfl) (fun _ _ _ _ => rfl) ?_ (fun _ _ h => .inr h) (fun l hl => .inr ⟨hl, rfl⟩) (Nat.le_refl _)
  ·intro d t _ hs
   refine ⟨?_, hbe d t hs⟩
   show (if Nat.beq d s.g.dp && Nat.beq t dst then some ({ cells := cs, frz := false, ty := ty } : Box) else s.g.bx d t).isSome = true
   split
   ·rfl
   ·exact hs
  ·intro d t b hs hb'
   obtain ⟨bo, hbo⟩ := Option.isSome_iff_exists.1 hs
   rcases hcases d t bo hbo with ⟨rfl, rfl, rfl⟩ | hq
   ·simp [beNew] at hb'
    exact .inl (by omega)
   ·refine .inr ⟨d, t, by rw [hq]; rfl, ?_⟩
    have := hbe d t (by rw [hq]; rfl)
    rw [← this]; exact hb'
def gaNew (ga : Id → Option Nat) (i : Id) (n : Nat) : Id → Option Nat := fun k => if k = i then some n else ga k
def LNew (L : Nat → Nat) (b n : Nat) : Nat → Nat := fun k => if k = b then n else L k
theorem setFr_mono {fr : Nat → Bool} {d dp : Nat} : ∀ i, TmQ fr dp i → TmQ (setFr fr d) dp i := by
 intro i hi
 cases i with
 | box _ _ _ => trivial
 | res _ => exact hi.elim
 | tmp a b c => exact ⟨hi.1, by simp [setFr, hi.2]⟩
def limK (k : Option Nat) (n : Nat) : Nat := match k with
 | none => n
 | some m => m
theorem rowAV_ok {k : Option Nat} {i : Id} {sz : Nat} {es : List (List D)} {Q : Id → Prop} {K : Nat → Nat → Prop} {Y : Nat → Prop} (h : Q i) : (rowAV k i sz es).ok Q K Y := by
 cases k <;> simpa only [rowAV, AV.ok] using h
theorem rowAV_rep {w : World} {h : Gh} {k : Option Nat} {i : Id} {sz : Nat} {es : List (List D)} {b n c : Nat} {vs : List Value} {cc : Array Value} {e : TypeId} (hn : n = es.length) (hc : n ≤ c) (hk : limK k n ≤ n)
  (hs : ∀ x ∈ es, x.length = sz) (hf : RepF w h.L es vs) (hg : h.ga i = some b) (hL : h.L b = limK k n * sz) (hh : w.heap[b]? = some (.cells cc e (0, 0))) (hr : c * sz ≤ cc.size) (hcells : cellsAt w b 0 vs) :
  RepA w h (rowAV k i sz es) (.slice (some ⟨b, 0, none⟩) n c) := by
 cases k with
 | none =>
  simp only [rowAV, RepA]
  exact .inr ⟨b, n, c, vs, cc, e, rfl, hn, hc, hs, hf, hg, hL, hh, hr, hcells⟩
 | some m =>
  simp only [rowAV, RepA]
  exact .inr (.inr ⟨b, n, c, vs, cc, e, rfl, (by intro m h; cases h), hn, hc, hk, hs, hf, hg, hL, hh, hr, hcells⟩)
theorem full_row {w : World} {h : Gh} {k : Option Nat} {i : Id} {sz : Nat} {es : List (List D)} {v : Value} (hr : RepV w h.L (.full sz es) v) (hk : limK k es.length = es.length) (h0 : k = none ∨ es = []) : RepA w h (rowAV k i sz es) v := by
 cases k with
 | none => simp only [rowAV, RepA]; exact .inl hr
 | some m => simp only [rowAV, RepA]; exact .inl ⟨trivial, ⟨hk, by simpa using h0⟩, hr⟩
theorem own_row {w : World} {h : Gh} {k : Option Nat} {i : Id} {sz : Nat} {es : List (List D)} {v : Value} (hr : RepA w h (.own i sz es) v) (hk : limK k es.length = es.length) (h0 : k = none ∨ es = []) : RepA w h (rowAV k i sz es) v := by
 simp only [RepA] at hr
 rcases hr with hr | ⟨b, n, c, vs, cc, e, rfl, hn, hc, hs, hf, hg, hL, hh, hrm, hcells⟩
 ·exact full_row hr hk h0
 ·exact rowAV_rep hn hc (by rw [hn, hk]; exact Nat.le_refl _) hs hf hg (by rw [hL, hn, hk]) hh hrm hcells
theorem FI.newRow {s : St} {a : Act} {w w' : World} {h : Gh} (hf : FI nt s a w h) (hr : Rel g0 h0 w0 s.g w h) {dst sz : Nat} (hfr : s.fr dst = false) (hdst : dst < nt) (hd0 : g0.dp < s.g.dp)
  {k : Option Nat} {es : List (List D)} {vs : List Value} {cc : Array Value} {e : TypeId} {cap : Nat} (hkn : limK k es.length ≤ es.length) (hb : RowKit.Below w.heap.size w w') (hsize : w'.heap.size = w.heap.size + 1)
  (hnew : w'.heap[w.heap.size]? = some (.cells cc e (0, 0))) (hus : ∀ x ∈ es, x.length = sz) (hrep : RepF w h.L es vs) (hcap : es.length ≤ cap) (hroom : cap * sz ≤ cc.size)
  (hcells : ∀ (k : Nat) (u : Value), vs[k]? = some u → cc[k]? = some u ∧ u.oneCell' = true) :
  FI nt { tm := upd s.tm dst (some (rowAV k (.tmp s.g.dp dst 0) sz es)), fr := setFr s.fr dst, g := s.g } (a.put (some dst) (.slice (some ⟨w.heap.size, 0, none⟩) es.length cap)) w'
    {h with ga := gaNew h.ga (.tmp s.g.dp dst 0) w.heap.size, L := LNew h.L w.heap.size (limK k es.length * sz) } ∧
   Rel g0 h0 w0 s.g w' { h with ga := gaNew h.ga (.tmp s.g.dp dst 0) w.heap.size, L := LNew h.L w.heap.size (limK k es.length * sz) } := by
 have hL : ∀ b, b < w.heap.size → LNew h.L w.heap.size (limK k es.length * sz) b = h.L b := fun b hlt => by unfold LNew; rw [if_neg (by omega)]
 have hgaQ : ∀ i, TmQ s.fr s.g.dp i → gaNew h.ga (.tmp s.g.dp dst 0) w.heap.size i = h.ga i := by
  intro i hi
  unfold gaNew
  rw [if_neg]
  rintro rfl
  have := hi.2
  rw [hfr] at this
  cases this
 have inv : ∀ k b, gaNew h.ga (.tmp s.g.dp dst 0) w.heap.size k = some b → (k = .tmp s.g.dp dst 0 ∧ b = w.heap.size) ∨ h.ga k = some b := by
  intro k b hk
  unfold gaNew at hk
  split at hk
  ·rename_i e; cases hk; exact .inl ⟨e, rfl⟩
  ·exact .inr hk
 have hG : GI s.g w' { h with ga := gaNew h.ga (.tmp s.g.dp dst 0) w.heap.size, L := LNew h.L w.heap.size (limK k es.length * sz) } := by
  refine hf.gi.grow (h' := { h with ga := gaNew h.ga (.tmp s.g.dp dst 0) w.heap.size, L := LNew h.L w.heap.size (limK k es.length * sz) }) hb hL ?_ (fun _ _ _ => rfl) (fun _ _ => rfl) ?_ ?_ ?_ ?_ ?_
  ·intro b hh
   show LNew h.L w.heap.size (limK k es.length * sz) b = 0
   unfold LNew
   rw [if_neg (by omega)]
   exact hf.gi.lim b (by omega)
  ·intro i hi
   cases i with
   | box _ _ _ => rfl
   | tmp _ _ _ => exact hi.elim
   | res _ => exact hi.elim
  ·intro i b d t hi hs
   rcases inv i b hi with ⟨_, rfl⟩ | h1
   ·obtain ⟨bo, hbo⟩ := Option.isSome_iff_exists.1 hs
    obtain ⟨_, _, b2, c2, e2, h7, h8, _⟩ := hf.gi.bx d t bo hbo
    have := lt_of_heap h8
    show h.be d t ≠ _
    rw [h7]
    intro e; cases e; omega
   ·exact hf.gi.gaBx i b d t h1 hs
  ·intro i j b hi hj
   rcases inv i b hi with ⟨e1, hb1⟩ | h1 <;> rcases inv j b hj with ⟨e2, h2⟩ | h2
   ·rw [e1, e2]
   ·have := hf.gi.gaLt j _ h2; omega
   ·have := hf.gi.gaLt i _ h1; omega
   ·exact hf.gi.gaInj i j b h1 h2
  ·intro i b hi
   rcases inv i b hi with ⟨_, rfl⟩ | h1
   ·exact ⟨_, _, hnew⟩
   ·obtain ⟨c, e, hc⟩ := hf.gi.gaC i b h1
    exact ⟨c, e, by rw [hb.block b (lt_of_heap hc), hc]⟩
  ·intro d t j hd
   show gaNew h.ga (.tmp s.g.dp dst 0) w.heap.size (.tmp d t j) = none
   unfold gaNew
   rw [if_neg (by intro e; cases e; omega)]
   exact hf.gi.gaTop d t j hd
 have hE : Ext w h.L w' (LNew h.L w.heap.size (limK k es.length * sz)) := ext_grow hb hL hf.gi.lim
 refine ⟨⟨by simp [Act.put, hf.size], ?_, hG, dfr_grow hf.dfr hb⟩, ?_⟩
 ·intro t v hv
  rw [getD_put a dst t _ (by rw [hf.size]; exact hdst)]
  rcases upd_some hv with ⟨rfl, rfl⟩ | ⟨hne, hv⟩
  ·rw [if_pos rfl]
   refine ⟨?_, ?_⟩
   ·refine rowAV_rep rfl hcap hkn hus (RepF.ext hE es vs hrep) (by simp [gaNew]) (by simp [LNew]) hnew hroom ?_
    intro k u hk
    obtain ⟨h1, h2⟩ := hcells k u hk
    refine ⟨?_, h2⟩
    simp only [World.cell?, hnew]
    simpa using h1
   ·exact rowAV_ok ⟨rfl, by simp [setFr]⟩
  ·rw [if_neg hne]
   obtain ⟨h5, h6⟩ := hf.tm_grow (h' := { h with ga := gaNew h.ga (.tmp s.g.dp dst 0) w.heap.size, L := LNew h.L w.heap.size (limK k es.length * sz) }) hb hL (fun _ _ _ => rfl) (fun _ _ => rfl) hgaQ t v hv
   exact ⟨h5, AV.ok.mono setFr_mono (fun _ _ h => h) (fun _ h => h) v h6⟩
 ·refine hr.grow (h' := { h with ga := gaNew h.ga (.tmp s.g.dp dst 0) w.heap.size, L := LNew h.L w.heap.size (limK k es.length * sz) }) hf.gi hb hL (fun d t _ hs => ⟨hs, rfl⟩) (fun _ _ => rfl) ?_
   (fun d t b hs hb' => .inr ⟨d, t, hs, hb'⟩) ?_ (fun l hl => .inr ⟨hl, rfl⟩) (Nat.le_refl _)
  ·intro d t j hd
   show gaNew h.ga (.tmp s.g.dp dst 0) w.heap.size (.tmp d t j) = _
   unfold gaNew
   rw [if_neg (by intro e; cases e; omega)]
  ·intro i b hi
   rcases inv i b hi with ⟨_, rfl⟩ | h1
   ·exact .inl (Nat.le_refl _)
   ·exact .inr h1
end
end Go.Abs
