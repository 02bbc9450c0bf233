/- What the claim rests on, part 5. -/
import Derived.Test.YtehkgiofchmpaaaDoorQp4
import Derived.KernelRfl
namespace Go.Abs
open Go
set_option linter.unusedVariables false
set_option linter.unusedSimpArgs false
set_option linter.unusedSectionVars false
class Asks where
 hold : Bool → Bool
 hold_eq : ∀ c, hold c = c
 seq : ByteArray → ByteArray → Bool
 seq_eq : ∀ a b, seq a b = (a.toList == b.toList)
 askI : {R : Type} → Int → (Int → Option R) → Option R
 askI_eq : ∀ {R : Type} n (f : Int → Option R), askI n f = f n
 askIdx : {R : Type} → List (List D) → Int → (List D → Option R) → Option R
 askIdx_eq : ∀ {R : Type} es n (f : List D → Option R), askIdx es n f = (if 0 ≤ n then match es[n.toNat]? with
  | some e => f e
  | none => none
 else none)
 askChr : {R : Type} → ByteArray → Int → (UInt8 → Option R) → Option R
 askChr_eq : ∀ {R : Type} s n (f : UInt8 → Option R), askChr s n f = (match (if 0 ≤ n then s[n.toNat]? else none) with
  | some e => f e
  | none => none)
 askC : {R : Type} → Option Out → (Out → Option R) → Option R
 askC_eq : ∀ {R : Type} o (f : Out → Option R), askC o f = (match o with
  | some x => f x
  | none => none)
 askT : {R : Type} → Bool → Option R → Option R
 askT_eq : ∀ {R : Type} c (f : Option R), askT c f = (match c with
  | true => f
  | false => none)
 askP : {R : Type} → (c : Prop) → [Decidable c] → Option R → Option R
 askP_eq : ∀ {R : Type} c [Decidable c] (f : Option R), askP c f = (if c then f else none)
 askB2 : {R : Type} → [Same R] → Option R → Option R → Option R
 askB2_eq : ∀ {R : Type} [Same R] (x y : Option R), askB2 x y = both x y
@[reducible] def plainAsks : Asks where
 hold c := c
 hold_eq _ := rfl
 seq a b := a.toList == b.toList
 seq_eq _ _ := rfl
 askI n f := f n
 askI_eq _ _ := rfl
 askIdx es n f := if 0 ≤ n then match es[n.toNat]? with
  | some e => f e
  | none => none
 else none
 askIdx_eq _ _ _ := rfl
 askChr s n f := match (if 0 ≤ n then s[n.toNat]? else none) with
  | some e => f e
  | none => none
 askChr_eq _ _ _ := rfl
 askC o f := match o with
  | some x => f x
  | none => none
 askC_eq _ _ := rfl
 askT c f := match c with
  | true => f
  | false => none
 askT_eq _ _ := rfl
 askP c _ f := if c then f else none
 askP_eq _ _ _ := rfl
 askB2 x y := both x y
 askB2_eq _ _ := rfl
open Asks
section
variable [Asks] {R : Type}
def askB (c : Bool) (f : Bool → Option R) : Option R := match c with
 | true => f true
 | false => f false
theorem askB_eq (c : Bool) (f : Bool → Option R) : askB c f = f c := by cases c <;> rfl
def orN {α : Type} (o : Option α) (f : α → Option R) : Option R := match o with
 | some v => f v
 | none => none
variable (T : Nat → Option TI)
def intQ (op : BinOp) (a b : Int) (k : IntKind) (f : AV → Option R) (d : Option R) : Option R := match op with
 | .add => askI (k.wrap (a + b)) fun n => f (.d (.int k n))
 | .sub => askI (k.wrap (a - b)) fun n => f (.d (.int k n))
 | .mul => askI (k.wrap (a * b)) fun n => f (.d (.int k n))
 | .quo => match decide (b = 0) with
  | true => d
  | false => askI (k.wrap (a.tdiv b)) fun n => f (.d (.int k n))
 | .rem => match decide (b = 0) with
  | true => d
  | false => askI (a.tmod b) fun n => f (.d (.int k n))
 | .eql => f (.d (.bool (hold (a == b))))
 | .neq => f (.d (.bool (hold (a != b))))
 | .lss => f (.d (.bool (hold (decide (a < b)))))
 | .leq => f (.d (.bool (hold (decide (a ≤ b)))))
 | .gtr => f (.d (.bool (hold (decide (a > b)))))
 | .geq => f (.d (.bool (hold (decide (a ≥ b)))))
 | _ => d
def strQ (op : BinOp) (a b : ByteArray) (f : AV → Option R) (d : Option R) : Option R := match op with
 | .eql => f (.d (.bool (seq a b)))
 | .neq => f (.d (.bool (!(seq a b))))
 | .add => askT (decide (((a.size + b.size : Nat) : Int) ≤ 9223372036854775807)) (f (.d (.str (a ++ b))))
 | .lss => f (.d (.bool (hold (Op.bytesLess a.toList b.toList))))
 | .leq => f (.d (.bool (hold (Op.bytesLess a.toList b.toList || (a.toList == b.toList)))))
 | .gtr => f (.d (.bool (hold (!(Op.bytesLess a.toList b.toList || (a.toList == b.toList))))))
 | .geq => f (.d (.bool (hold (!(Op.bytesLess a.toList b.toList)))))
 | _ => d
def binQ (op : BinOp) (t : Nat) (a b : AV) (f : AV → Option R) : Option R := match a, b with
 | .d (.int k x), .d (.int k' y) => if k = k' then intQ op x y k f (orN (match opB (Go.binOp op t) a b with
   | some v => some v
   | none => eqA T op t a b) f) else orN (match opB (Go.binOp op t) a b with
   | some v => some v
   | none => eqA T op t a b) f
 | .d (.str x), .d (.str y) => strQ op x y f (orN (match opB (Go.binOp op t) a b with
   | some v => some v
   | none => eqA T op t a b) f)
 | a, b => orN (match opB (Go.binOp op t) a b with
   | some v => some v
   | none => eqA T op t a b) f
theorem binQ_eq (op : BinOp) (t : Nat) (a b : AV) (f : AV → Option R) : binQ T op t a b f = orN (match opB (Go.binOp op t) a b with
      | some v => some v
      | none => eqA T op t a b) f := by
  unfold binQ
  split
  · rename_i k x k' y
    split
    · rename_i hk
      subst hk
      cases op <;> first
        | (simp [intQ, orN, opB, D.val, Go.binOp, semV, vD, askI_eq, hold_eq, Op.intArith, Op.intCmp, pure]; done)
        | (by_cases hy : y = 0 <;> simp [hy, intQ, orN, opB, D.val, Go.binOp, semV, vD, askI_eq, Op.intDiv, pure])
    · rfl
  · rename_i x y
    have hm : IntKind.i64.max = 9223372036854775807 := rfl
    cases op <;> first
      | (simp [strQ, orN, opB, D.val, Go.binOp, semV, vD, Op.stringOp, seq_eq, hold_eq, pure]; done)
      | (by_cases hy : (9223372036854775807 : Int) < ((x.size + y.size : Nat) : Int)
         · have hy' : decide (((x.size + y.size : Nat) : Int) ≤ 9223372036854775807) = false := by rw [decide_eq_false_iff_not]; omega
           have hn : eqA T .add t (.d (.str x)) (.d (.str y)) = none := by unfold eqA; split <;> rfl
           simp only [strQ, askT_eq, hy', opB, D.val, Go.binOp, Op.stringOp, hm, gt_iff_lt, hy, if_true, hn]
           rfl
         · have hy' : decide (((x.size + y.size : Nat) : Int) ≤ 9223372036854775807) = true := by rw [decide_eq_true_iff]; omega
           simp only [strQ, askT_eq, hy', opB, D.val, Go.binOp, Op.stringOp, hm, gt_iff_lt, hy, if_false]
           rfl)
  · rfl
def sliceQ (sz : Nat) (a : AV) (lo hi mx : Option Int) (f : AV → Option R) : Option R :=
 if mx.isSome && hi.isNone then none else
 match a with
 | .d .nils => orN (sliceD sz a lo hi mx) f
 | a => match AV.row sz a with
  | some es => match mx with
   | none => askP (0 ≤ lo.getD 0 ∧ lo.getD 0 ≤ hi.getD es.length ∧ hi.getD es.length ≤ es.length) (f (.d (.sl sz ((es.take (hi.getD es.length).toNat).drop (lo.getD 0).toNat))))
   | some m => askP (0 ≤ lo.getD 0 ∧ lo.getD 0 ≤ hi.getD es.length ∧ hi.getD es.length = m ∧ m ≤ es.length) (f (.d (.full sz ((es.take (hi.getD es.length).toNat).drop (lo.getD 0).toNat))))
  | none => none
theorem sliceQ_eq (sz : Nat) (a : AV) (lo hi mx : Option Int) (f : AV → Option R) : sliceQ sz a lo hi mx f = orN (sliceD sz a lo hi mx) f := by
 by_cases h : (mx.isSome && hi.isNone) = true
 ·unfold sliceQ sliceD
  rw [if_pos h, if_pos h]; rfl
 ·by_cases hn : a = .d .nils
  ·subst hn
   unfold sliceQ
   rw [if_neg h]
  ·unfold sliceQ sliceD
   rw [if_neg h, if_neg h]
   clear h
   cases a with
   | d x => cases x <;> first | exact (hn rfl).elim | (dsimp only; cases AV.row sz _ <;> cases mx <;> dsimp only <;> first | rfl | (simp only [askP_eq]; split <;> rfl))
   | _ => dsimp only; cases AV.row sz _ <;> cases mx <;> dsimp only <;> first | rfl | (simp only [askP_eq]; split <;> rfl)
def opQ (ev : Operand → Option AV) (op : Op) (f : AV → Option R) : Option R := match op with
 | .pick c a b => match ev c with
  | some (.d (.bool c)) => askB c fun c => match c with
   | true => orN (ev a) f
   | false => orN (ev b) f
  | _ => none
 | .indexAddr t x i => match T t with
  | some ti => match ti.kind with
   | 2 => match T ti.elem with
    | some te => match ev x with
     | some a => match AV.refs te.size a with
      | some es => match ev i with
       | some b => match intOf b with
        | some n => askIdx es n fun e => f (AV.elem n.toNat e a)
        | none => none
       | none => none
      | none => none
     | none => none
    | none => none
   | _ => none
  | none => none
 | .index t x i => match T t with
  | some ti => match ti.kind, ev x with
   | 3, some (.d (.str s)) => match ev i with
    | some b => match intOf b with
     | some n => askChr s n fun c => f (.d (.int .u8 c.toNat))
     | none => none
    | none => none
   | _, _ => none
  | none => none
 | .slice t x lo hi mx => match T t with
  | some ti => match ti.kind, ev x, optI ev lo, optI ev hi, optI ev mx with
   | 2, some a, some l, some h, some m => match T ti.elem with
    | some te => sliceQ te.size a l h m f
    | none => none
   | 3, some (.d (.str s)), some l, some h, some none =>
    askP (0 ≤ l.getD 0 ∧ l.getD 0 ≤ h.getD s.size ∧ h.getD s.size ≤ s.size) (f (.d (.str (s.extract (l.getD 0).toNat (h.getD s.size).toNat))))
   | _, _, _, _, _ => none
  | none => none
 | .binOp op t x y _ => match ev x, ev y with
  | some a, some b => binQ T op t a b f
  | _, _ => none
 | .convert s t x => match T s, T t with
  | some si, some ti => match si.int, ti.int, ev x with
   | some _, some k, some (.d (.int _ n)) => askI (k.wrap n) fun z => f (.d (.int k z))
   | _, _, _ => none
  | _, _ => none
 | op => orN (opP T ev op) f
theorem opQ_eq (ev : Operand → Option AV) (op : Op) (f : AV → Option R) : opQ T ev op f = orN (opP T ev op) f := by
 cases op with
 | pick c a b =>
  simp only [opQ, opP]
  cases ev c with
  | none => rfl
  | some v =>
   cases v with
   | d x =>
    cases x with
    | bool c => cases c <;> rfl
    | _ => rfl
   | _ => rfl
 | indexAddr t x i =>
  simp only [opQ, opP]
  cases T t with
  | none => rfl
  | some ti =>
   dsimp only
   generalize ti.kind = kd
   generalize T ti.elem = te
   split
   ·cases te with
    | none => rfl
    | some te =>
     dsimp only
     cases ev x with
     | none => rfl
     | some a =>
      dsimp only
      cases AV.refs te.size a with
      | none => rfl
      | some es =>
       dsimp only
       cases ev i with
       | none => rfl
       | some b =>
        dsimp only
        cases intOf b with
        | none => rfl
        | some n =>
         dsimp only
         rw [askIdx_eq]
         split
         ·rename_i hn
          cases es[n.toNat]? <;> rfl
         ·rfl
   ·split <;> first | rfl | (exfalso; rename_i hx; exact hx rfl) | (exfalso; rename_i hx; exact hx _ rfl rfl) | (exfalso; rename_i hx hy; first | exact hx _ _ _ _ rfl rfl rfl rfl rfl | exact hy _ _ _ rfl rfl rfl rfl rfl) | (exfalso; simp_all; done)
 | index t x i =>
  simp only [opQ, opP]
  cases T t with
  | none => rfl
  | some ti =>
   dsimp only
   generalize ti.kind = kd
   generalize ev x = ex
   split
   ·cases ev i with
    | none => rfl
    | some b =>
     dsimp only
     cases intOf b with
     | none => rfl
     | some n =>
      dsimp only
      rw [askChr_eq]
      have : ∀ o : Option UInt8, (match o with
       | some e => f (AV.d (.int .u8 e.toNat))
       | none => none) = orN (match o with
       | some c => some (AV.d (.int .u8 c.toNat))
       | none => none) f := by intro o; cases o <;> rfl
      exact this _
   ·split <;> first | rfl | (exfalso; rename_i hx; exact hx rfl) | (exfalso; rename_i hx; exact hx _ rfl rfl) | (exfalso; rename_i hx hy; first | exact hx _ _ _ _ rfl rfl rfl rfl rfl | exact hy _ _ _ rfl rfl rfl rfl rfl) | (exfalso; simp_all; done)
 | slice t x lo hi mx =>
  simp only [opQ, opP]
  cases T t with
  | none => rfl
  | some ti =>
   dsimp only
   generalize T ti.elem = te
   generalize ti.kind = kd
   generalize ev x = ex
   generalize optI ev lo = ol
   generalize optI ev hi = oh
   generalize optI ev mx = om
   split
   ·cases te with
    | none => rfl
    | some te => exact sliceQ_eq _ _ _ _ _ _
   ·simp only [askP_eq]
    have : ∀ (c : Prop) [Decidable c] (v : AV), (if c then f v else none) = orN (if c then some v else none) f := by intro c _ v; split <;> rfl
    exact this _ _
   ·split <;> first | rfl | (exfalso; rename_i hx; exact hx rfl) | (exfalso; rename_i hx; exact hx _ rfl rfl) | (exfalso; rename_i hx hy; first | exact hx _ _ _ _ rfl rfl rfl rfl rfl | exact hy _ _ _ rfl rfl rfl rfl rfl) | (exfalso; simp_all; done)
 | binOp op t x y p =>
  simp only [opQ, opP]
  cases ev x with
  | none => rfl
  | some a =>
   cases ev y with
   | none => rfl
   | some b => exact binQ_eq T op t a b f
 | convert s t x =>
  simp only [opQ, opP]
  cases T s with
  | none => rfl
  | some si =>
   cases T t with
   | none => rfl
   | some ti =>
    dsimp only
    cases si.int with
    | none => rfl
    | some k1 =>
     cases ti.int with
     | none => rfl
     | some k2 =>
      cases ev x with
      | none => rfl
      | some a =>
       cases a with
       | d u => cases u <;> first | rfl | (dsimp only; rw [askI_eq]; rfl)
       | _ => rfl
 | _ => rfl
def demq (i : Id) (a : AV) : AV := match a with
 | .d x => .d x
 | .ptr e u o => .ptr e u o
 | .fn g c => .fn g c
 | .yld l => .yld l
 | .old o z n => .old o z n
 | a => dem i a
theorem demq_eq (i : Id) (a : AV) : demq i a = dem i a := by cases a <;> simp only [demq, dem]
def renAq (i nm : Id) (a : AV) : AV := match a with
 | .d x => .d x
 | .ptr e u o => .ptr e u o
 | .fn g c => .fn g c
 | .yld l => .yld l
 | .old o z n => .old o z n
 | a => renA i nm a
theorem renAq_eq (i nm : Id) (a : AV) : renAq i nm a = renA i nm a := by cases a <;> simp only [renAq, renA]
def setRawq (i : Id) (n sz : Nat) (c : List D) (a : AV) : AV := match a with
 | .d x => .d x
 | .ptr e u o => .ptr e u o
 | .fn g c => .fn g c
 | .yld l => .yld l
 | .old o z n => .old o z n
 | a => setRaw i n sz c a
theorem setRawq_eq (i : Id) (n sz : Nat) (c : List D) (a : AV) : setRawq i n sz c a = setRaw i n sz c a := by cases a <;> simp only [setRawq, setRaw]
def demFq (f : Nat → Bool) (a : AV) : AV := match a with
 | .d x => .d x
 | .ptr e u o => .ptr e u o
 | .fn g c => .fn g c
 | .yld l => .yld l
 | .old o z n => .old o z n
 | a => demF f a
theorem demFq_eq (f : Nat → Bool) (a : AV) : demFq f a = demF f a := by cases a <;> first | rfl | simp only [demFq, demF]
def demTmQ (i : Id) (tm : Nat → Option AV) : Nat → Option AV := fun t => match tm t with
 | some a => some (demq i a)
 | none => none
theorem demTmQ_eq (i : Id) (tm : Nat → Option AV) : demTmQ i tm = demTm i tm := by
 funext t
 unfold demTmQ demTm
 cases tm t with
 | none => rfl
 | some a => simp only [demq_eq]
def renTmQ (i nm : Id) (tm : Nat → Option AV) : Nat → Option AV := fun t => match tm t with
 | some a => some (renAq i nm a)
 | none => none
theorem renTmQ_eq (i nm : Id) (tm : Nat → Option AV) : renTmQ i nm tm = renTm i nm tm := by
 funext t
 unfold renTmQ renTm
 cases tm t with
 | none => rfl
 | some a => simp only [renAq_eq]
def setTmQ (i : Id) (n sz : Nat) (c : List D) (tm : Nat → Option AV) : Nat → Option AV := fun t => match tm t with
 | some a => some (setRawq i n sz c a)
 | none => none
theorem setTmQ_eq (i : Id) (n sz : Nat) (c : List D) (tm : Nat → Option AV) : setTmQ i n sz c tm = setTm i n sz c tm := by
 funext t
 unfold setTmQ setTm
 cases tm t with
 | none => rfl
 | some a => simp only [setRawq_eq]
def updQ (tm : Nat → Option AV) (d : Nat) (v : Option AV) : Nat → Option AV := fun t => match Nat.beq t d with
 | true => v
 | false => tm t
theorem updQ_eq (tm : Nat → Option AV) (d : Nat) (v : Option AV) : updQ tm d v = upd tm d v := by
 funext t
 unfold updQ upd
 cases Nat.beq t d <;> rfl
def stQ (s : St) (f : (Nat → Option AV) → (Nat → Bool) → (Nat → Nat → Option Box) → Nat → List LoopRec → Option R) : Option R := match s with
 | ⟨tm, fr, ⟨bx, dp, lp⟩⟩ => f tm fr bx dp lp
def forceAVs : List AV → (List AV → Option R) → Option R
 | [], f => f []
 | a :: as, f => forceAVs as fun as' => f (a :: as')
theorem forceAVs_eq : ∀ (l : List AV) (f : List AV → Option R), forceAVs l f = f l
 | [], f => rfl
 | a :: as, f => by unfold forceAVs; rw [forceAVs_eq as]
def forceDs : List D → (List D → Option R) → Option R
 | [], f => f []
 | a :: as, f => forceDs as fun as' => f (a :: as')
theorem forceDs_eq : ∀ (l : List D) (f : List D → Option R), forceDs l f = f l
 | [], f => rfl
 | a :: as, f => by unfold forceDs; rw [forceDs_eq as]
def forceD (a : D) (f : D → Option R) : Option R := match a with
 | .agg cs => forceDs cs fun cs => f (.agg cs)
 | a => f a
theorem forceD_eq (a : D) (f : D → Option R) : forceD a f = f a := by
 unfold forceD
 split
 ·rw [forceDs_eq]
 ·rfl
def forceArgs : List D → (List D → Option R) → Option R
 | [], f => f []
 | a :: as, f => forceD a fun a => forceArgs as fun as' => f (a :: as')
theorem forceArgs_eq : ∀ (l : List D) (f : List D → Option R), forceArgs l f = f l
 | [], f => rfl
 | a :: as, f => by unfold forceArgs; rw [forceD_eq, forceArgs_eq as]
def forceA1 (a : AV) (f : AV → Option R) : Option R := match a with
 | .d x => forceD x fun x => f (.d x)
 | a => f a
theorem forceA1_eq (a : AV) (f : AV → Option R) : forceA1 a f = f a := by
 unfold forceA1
 split
 ·rw [forceD_eq]
 ·rfl
def forceRes : List AV → (List AV → Option R) → Option R
 | [], f => f []
 | a :: as, f => forceA1 a fun a => forceRes as fun as' => f (a :: as')
theorem forceRes_eq : ∀ (l : List AV) (f : List AV → Option R), forceRes l f = f l
 | [], f => rfl
 | a :: as, f => by unfold forceRes; rw [forceA1_eq, forceRes_eq as]
def ownQ (k : Option Nat) (dst : Nat) (sz : Nat) (es : List (List D)) (tm : Nat → Option AV) (fr : Nat → Bool) (bx : Nat → Nat → Option Box) (dp : Nat) (lp : List LoopRec) (f : St → Option R) : Option R := match fr dst with
 | true => none
 | false => f ⟨updQ tm dst (some (rowAV k (.tmp dp dst 0) sz es)), setFr fr dst, ⟨bx, dp, lp⟩⟩
theorem ownQ_eq (k : Option Nat) (dst : Nat) (sz : Nat) (es : List (List D)) (tm : Nat → Option AV) (fr : Nat → Bool) (bx : Nat → Nat → Option Box) (dp : Nat) (lp : List LoopRec) (f : St → Option R) :
  ownQ k dst sz es tm fr bx dp lp f = orN (putOwn k dst sz es ⟨tm, fr, ⟨bx, dp, lp⟩⟩) f := by
 unfold ownQ putOwn
 rw [updQ_eq]
 have : ∀ (b : Bool) (x : St), (match b with
  | true => none
  | false => f x) = orN (if b then none else some x) f := by intro b x; cases b <;> rfl
 exact this _ _
def askR (rw : Bool) (b : Bool) (n m : Nat) (f : Option R) : Option R := match rw with
 | false => askT b f
 | true => askT (b && rawC true n m) f
theorem askR_eq (rw b : Bool) (n m : Nat) (f : Option R) : askR rw b n m f = (match b && rawC rw n m with
  | true => f
  | false => none) := by
 unfold askR
 cases rw with
 | false => simp only [askT_eq, rawC, Bool.and_true]
 | true => simp only [askT_eq]
def appendQ (rw : Bool) (dst : Nat) (t t2 : TI) (x y : Operand) (s : St) (f : St → Option R) : Option R :=
 match t.kind, T t.elem with
  | 2, some te => stQ s fun tm fr bx dp lp => match ev tm x, ev tm y with
   | some a, some b => match AV.rowS t2 te b with
    | some ys => match a with
     | .own i sz es => match Nat.beq sz te.size && Nat.ble 1 te.size with
      | true => askR rw (Nat.ble ((es.length + ys.length) * (te.bytes + 1)) most) es.length ys.length (ownQ (rawK rw es.length) dst te.size (es ++ ys) (demTmQ i tm) fr (demBx i bx) dp lp f)
      | false => none
     | .d .nils => match Nat.ble 1 te.size with
      | true => askT (Nat.ble (ys.length * (te.bytes + 1)) most) (ownQ (rawK rw 0) dst te.size ys tm fr bx dp lp f)
      | false => none
     | .d (.full sz es) => match Nat.beq sz te.size && Nat.ble 1 te.size with
      | true => askR rw (Nat.ble ((es.length + ys.length) * (te.bytes + 1)) most) es.length ys.length (ownQ (rawK rw es.length) dst te.size (es ++ ys) tm fr bx dp lp f)
      | false => none
     | _ => none
    | none => none
   | _, _ => none
  | _, _ => none
theorem appendQ_aux (rw : Bool) (dst : Nat) (t2 te : TI) (oa ob : Option AV) (s : St) (f : St → Option R) : (match oa, ob with
   | some a, some b => match AV.rowS t2 te b with
    | some ys => match a with
     | .own i sz es => match Nat.beq sz te.size && Nat.ble 1 te.size with
      | true => askR rw (Nat.ble ((es.length + ys.length) * (te.bytes + 1)) most) es.length ys.length (orN (putOwn (rawK rw es.length) dst te.size (es ++ ys) (demSt i s)) f)
      | false => none
     | .d .nils => match Nat.ble 1 te.size with
      | true => askT (Nat.ble (ys.length * (te.bytes + 1)) most) (orN (putOwn (rawK rw 0) dst te.size ys s) f)
      | false => none
     | .d (.full sz es) => match Nat.beq sz te.size && Nat.ble 1 te.size with
      | true => askR rw (Nat.ble ((es.length + ys.length) * (te.bytes + 1)) most) es.length ys.length (orN (putOwn (rawK rw es.length) dst te.size (es ++ ys) s) f)
      | false => none
     | _ => none
    | none => none
   | _, _ => none) = orN (match oa, ob with
   | some a, some b => match AV.rowS t2 te b with
    | some ys => match a with
     | .own i sz es => if Nat.beq sz te.size && Nat.ble ((es.length + ys.length) * (te.bytes + 1)) most && Nat.ble 1 te.size && rawC rw es.length ys.length then putOwn (rawK rw es.length) dst te.size (es ++ ys) (demSt i s) else none
     | .d .nils => if Nat.ble (ys.length * (te.bytes + 1)) most && Nat.ble 1 te.size then putOwn (rawK rw 0) dst te.size ys s else none
     | .d (.full sz es) => if Nat.beq sz te.size && Nat.ble ((es.length + ys.length) * (te.bytes + 1)) most && Nat.ble 1 te.size && rawC rw es.length ys.length then putOwn (rawK rw es.length) dst te.size (es ++ ys) s else none
     | _ => none
    | none => none
   | _, _ => none) f := by
 cases oa with
 | none => cases ob <;> rfl
 | some a =>
  cases ob with
  | none => rfl
  | some b =>
   dsimp only
   cases AV.rowS t2 te b with
   | none => rfl
   | some ys =>
    dsimp only
    split
    ·rename_i i sz es
     simp only [askR_eq]
     cases h1 : Nat.beq sz te.size <;> cases h2 : Nat.ble 1 te.size <;> cases h3 : Nat.ble ((es.length + ys.length) * (te.bytes + 1)) most <;> cases h4 : rawC rw es.length ys.length <;> rfl
    ·simp only [askT_eq]
     cases h2 : Nat.ble 1 te.size <;> cases h3 : Nat.ble (ys.length * (te.bytes + 1)) most <;> rfl
    ·rename_i sz es
     simp only [askR_eq]
     cases h1 : Nat.beq sz te.size <;> cases h2 : Nat.ble 1 te.size <;> cases h3 : Nat.ble ((es.length + ys.length) * (te.bytes + 1)) most <;> cases h4 : rawC rw es.length ys.length <;> rfl
    ·first | rfl | skip
     all_goals split <;> first | rfl | (exfalso; simp_all; done)
theorem appendQ_eq (rw : Bool) (dst : Nat) (t t2 : TI) (x y : Operand) (s : St) (f : St → Option R) : appendQ T rw dst t t2 x y s f = orN (appendA T rw dst t t2 x y s) f := by
 obtain ⟨tm, fr, ⟨bx, dp, lp⟩⟩ := s
 unfold appendQ appendA
 simp only [ownQ_eq, stQ, demTmQ_eq]
 generalize t.kind = kd
 generalize T t.elem = te
 split
 ·exact appendQ_aux rw dst t2 _ _ _ ⟨tm, fr, ⟨bx, dp, lp⟩⟩ f
 ·split <;> first | rfl | (exfalso; rename_i hx; exact hx _ rfl rfl) | (exfalso; simp_all; done)
def storeQ1 (t : Nat) (d u off : Nat) (a : AV) (cs : List AV) (tm : Nat → Option AV) (fr : Nat → Bool) (bx : Nat → Nat → Option Box) (dp : Nat) (lp : List LoopRec) (f : St → Option R) : Option R := match bx d u with
 | some ⟨cells, frz, ty⟩ => match !(frz || !(Nat.beq ty.1 0)) && (Nat.beq d dp || AV.uptos d cs) && Nat.ble (off + cs.length) cells.length with
  | true => forceAVs (setCells cells off cs) fun cs' => f ⟨tm, fr, ⟨fun d' u' => if Nat.beq d' d && Nat.beq u' u then some { cells := cs', frz := frz, ty := ty } else bx d' u', dp, lp⟩⟩
  | false => none
 | none => none
def storeRQ (ti : TI) (n k : Nat) (i : Id) (sz : Nat) (es : List (List D)) (a : AV) (tm : Nat → Option AV) (fr : Nat → Bool) (bx : Nat → Nat → Option Box) (dp : Nat) (lp : List LoopRec) (f : St → Option R) : Option R := match rowCells ti a with
 | some cs => match Nat.beq sz ti.size && Nat.ble 1 sz with
  | true => askT (Nat.ble k n && Nat.blt n es.length) (forceDs cs fun cs => f ⟨setTmQ i n sz cs tm, fr, ⟨setBx i n sz cs bx, dp, lp⟩⟩)
  | false => none
 | none => none
theorem storeRQ_eq (ti : TI) (n k : Nat) (i : Id) (sz : Nat) (es : List (List D)) (a : AV) (tm : Nat → Option AV) (fr : Nat → Bool) (bx : Nat → Nat → Option Box) (dp : Nat) (lp : List LoopRec) (f : St → Option R) :
  storeRQ ti n k i sz es a tm fr bx dp lp f = orN (storeR ti n k i sz es a ⟨tm, fr, ⟨bx, dp, lp⟩⟩) f := by
 unfold storeRQ storeR
 cases rowCells ti a with
 | none => rfl
 | some cs =>
  simp only [askT_eq, forceDs_eq, setTmQ_eq]
  cases Nat.beq sz ti.size <;> cases Nat.ble 1 sz <;> cases (Nat.ble k n && Nat.blt n es.length) <;> rfl
def storeQ (t : Nat) (p x : Operand) (s : St) (f : St → Option R) : Option R := stQ s fun tm fr bx dp lp =>
 match T t, ev tm p, ev tm x with
 | some ti, some (.ptr d u off), some a => match boxCells ti (.box d u off) a with
  | some cs => match a with
   | .own i _ _ => storeQ1 t d u off a cs (demTmQ (.box d u off) (demTmQ i tm)) fr (demBx (.box d u off) (demBx i bx)) dp lp f
   | .raw _ _ i _ _ => storeQ1 t d u off a cs (renTmQ i (.box d u off) (demTmQ (.box d u off) tm)) fr (renBx i (.box d u off) (demBx (.box d u off) bx)) dp lp f
   | _ => storeQ1 t d u off a cs (demTmQ (.box d u off) tm) fr (demBx (.box d u off) bx) dp lp f
  | none => none
 | some ti, some (.raw (some n) k i sz es), some a => storeRQ ti n k i sz es a tm fr bx dp lp f
 | _, _, _ => none
theorem storeQ1_eq (t : Nat) (d u off : Nat) (a : AV) (cs : List AV) (tm : Nat → Option AV) (fr : Nat → Bool) (bx : Nat → Nat → Option Box) (dp : Nat) (lp : List LoopRec) (f : St → Option R) :
  storeQ1 t d u off a cs tm fr bx dp lp f = orN (match bx d u with
   | some b =>
    if !b.lock && (Nat.beq d dp || AV.uptos d cs) && Nat.ble (off + cs.length) b.cells.length then
     some { tm := tm, fr := fr, g := { bx := fun d' u' => if Nat.beq d' d && Nat.beq u' u then some { b with cells := setCells b.cells off cs } else bx d' u', dp := dp, lp := lp } }
    else none
   | none => none) f := by
 unfold storeQ1
 cases bx d u with
 | none => rfl
 | some b =>
  obtain ⟨cells, frz, ty⟩ := b
  simp only [Box.lock]
  cases !(frz || !(Nat.beq ty.1 0)) && (Nat.beq d dp || AV.uptos d cs) && Nat.ble (off + cs.length) cells.length with
  | false => rfl
  | true => dsimp only; rw [forceAVs_eq]; rfl
theorem storeQ_eq (t : Nat) (p x : Operand) (s : St) (f : St → Option R) : storeQ T t p x s f = orN (storeA T t p x s) f := by
 obtain ⟨tm, fr, ⟨bx, dp, lp⟩⟩ := s
 unfold storeQ storeA storeB
 simp only [stQ, storeQ1_eq, storeRQ_eq, demTmQ_eq, renTmQ_eq]
 cases T t with
 | none => cases ev tm p <;> cases ev tm x <;> rfl
 | some ti =>
  cases ev tm p with
  | none => rfl
  | some pv =>
   cases pv with
   | ptr d u off =>
    cases ev tm x with
    | none => rfl
    | some a =>
     dsimp only
     cases boxCells ti (.box d u off) a with
     | none => rfl
     | some cs => cases a <;> rfl
   | raw o k i sz es => cases o <;> cases ev tm x <;> rfl
   | _ => cases ev tm x <;> rfl
def allocQ (dst : Nat) (t : Nat) (s : St) (f : St → Option R) : Option R := stQ s fun tm fr bx dp lp =>
 match T t, bx dp dst with
 | some ti, none => forceAVs (ti.zero.map .d) fun cs => f ⟨updQ tm dst (some (.ptr dp dst 0)), fr, ⟨fun d u => if Nat.beq d dp && Nat.beq u dst then some { cells := cs, frz := false, ty := ti.mark } else bx d u, dp, lp⟩⟩
 | _, _ => none
theorem allocQ_eq (dst : Nat) (t : Nat) (s : St) (f : St → Option R) : allocQ T dst t s f = orN (allocA T dst t s) f := by
 obtain ⟨tm, fr, ⟨bx, dp, lp⟩⟩ := s
 unfold allocQ allocA
 simp only [stQ]
 cases T t with
 | none => cases bx dp dst <;> rfl
 | some ti =>
  cases bx dp dst with
  | some _ => rfl
  | none => dsimp only; rw [forceAVs_eq, updQ_eq]; rfl
def boxQ1 (dst : Nat) (cs : List AV) (tm : Nat → Option AV) (fr : Nat → Bool) (bx : Nat → Nat → Option Box) (dp : Nat) (lp : List LoopRec) (f : St → Option R) : Option R :=
 forceAVs cs fun cs => f ⟨updQ tm dst (some (.ptr dp dst 0)), fr, ⟨fun d u => if Nat.beq d dp && Nat.beq u dst then some { cells := cs, frz := false, ty := (0, 0) } else bx d u, dp, lp⟩⟩
def boxQ (dst : Nat) (t : Nat) (x : Operand) (s : St) (f : St → Option R) : Option R := stQ s fun tm fr bx dp lp =>
 match T t, bx dp dst, ev tm x with
 | some ti, none, some a => match boxCells ti (.box dp dst 0) a with
  | some cs => match a with
   | .own i _ _ => boxQ1 dst cs (demTmQ (.box dp dst 0) (demTmQ i tm)) fr (demBx (.box dp dst 0) (demBx i bx)) dp lp f
   | .raw _ _ i _ _ => boxQ1 dst cs (renTmQ i (.box dp dst 0) (demTmQ (.box dp dst 0) tm)) fr (renBx i (.box dp dst 0) (demBx (.box dp dst 0) bx)) dp lp f
   | _ => boxQ1 dst cs (demTmQ (.box dp dst 0) tm) fr (demBx (.box dp dst 0) bx) dp lp f
  | none => none
 | _, _, _ => none
theorem boxQ_eq (dst : Nat) (t : Nat) (x : Operand) (s : St) (f : St → Option R) : boxQ T dst t x s f = orN (boxA T dst t x s) f := by
 obtain ⟨tm, fr, ⟨bx, dp, lp⟩⟩ := s
 unfold boxQ boxA
 simp only [stQ, boxQ1, forceAVs_eq, updQ_eq, demTmQ_eq, renTmQ_eq]
 cases T t with
 | none => cases bx dp dst <;> cases ev tm x <;> rfl
 | some ti =>
  cases bx dp dst with
  | some _ => cases ev tm x <;> rfl
  | none =>
   cases ev tm x with
   | none => rfl
   | some a =>
    dsimp only
    cases boxCells ti (.box dp dst 0) a with
    | none => rfl
    | some cs => cases a <;> rfl
def forceEs : List (List D) → (List (List D) → Option R) → Option R
 | [], f => f []
 | a :: as, f => forceDs a fun a => forceEs as fun as' => f (a :: as')
theorem forceEs_eq : ∀ (l : List (List D)) (f : List (List D) → Option R), forceEs l f = f l
 | [], f => rfl
 | a :: as, f => by unfold forceEs; rw [forceDs_eq, forceEs_eq as]
def buildSliceQ (dst : Nat) (t n : Nat) (parts : List (Nat × Operand)) (s : St) (f : St → Option R) : Option R := stQ s fun tm fr bx dp lp =>
 match T t with
 | none => none
 | some ti => match ti.kind, T ti.elem with
  | 2, some te => match partCells te.size (ev tm) parts (List.replicate n te.zero) with
   | some es => match Nat.ble (n * te.size) 16777216 && Nat.ble 1 te.size with
    | true => forceEs (es.map (nrmC te.sls)) fun es => ownQ none dst te.size es tm fr bx dp lp f
    | false => none
   | none => none
  | _, _ => none
theorem buildSliceQ_eq (dst : Nat) (t n : Nat) (parts : List (Nat × Operand)) (s : St) (f : St → Option R) : buildSliceQ T dst t n parts s f = orN (buildSliceA T dst t n parts s) f := by
 obtain ⟨tm, fr, ⟨bx, dp, lp⟩⟩ := s
 unfold buildSliceQ buildSliceA
 simp only [stQ, forceEs_eq, ownQ_eq]
 cases T t with
 | none => rfl
 | some ti =>
  dsimp only
  generalize ti.kind = kd
  generalize T ti.elem = te
  split
  ·rename_i te
   have : ∀ o : Option (List (List D)), (match o with
    | some es => match Nat.ble (n * te.size) 16777216 && Nat.ble 1 te.size with
     | true => orN (putOwn none dst te.size (es.map (nrmC te.sls)) ⟨tm, fr, ⟨bx, dp, lp⟩⟩) f
     | false => none
    | none => none) = orN (match o with
    | some es => if Nat.ble (n * te.size) 16777216 && Nat.ble 1 te.size then putOwn none dst te.size (es.map (nrmC te.sls)) ⟨tm, fr, ⟨bx, dp, lp⟩⟩ else none
    | none => none) f := by
    intro o
    cases o with
    | none => rfl
    | some es => dsimp only; cases Nat.ble (n * te.size) 16777216 && Nat.ble 1 te.size <;> rfl
   exact this _
  ·split <;> first | rfl | (exfalso; rename_i hx; exact hx _ rfl rfl) | (exfalso; simp_all; done)
def putQ (d : Nat) (v : AV) (s : St) (f : St → Option R) : Option R := stQ s fun tm fr bx dp lp => f ⟨updQ tm d (some v), fr, ⟨bx, dp, lp⟩⟩
theorem putQ_eq (d : Nat) (v : AV) (s : St) (f : St → Option R) : putQ d v s f = f { s with tm := upd s.tm d (some v) } := by
 obtain ⟨tm, fr, ⟨bx, dp, lp⟩⟩ := s
 unfold putQ stQ
 dsimp only
 rw [updQ_eq]
def forceAV (a : AV) (f : AV → Option R) : Option R := match a with
 | .d (.agg cs) => forceDs cs fun cs => f (.d (.agg cs))
 | a => f a
theorem forceAV_eq (a : AV) (f : AV → Option R) : forceAV a f = f a := by
 unfold forceAV
 split
 ·rw [forceDs_eq]
 ·rfl
def extQ (mx : Bool) (a b : AV) (f : AV → Option R) : Option R := match a, b with
 | .d (.int k x), .d (.int _ y) => askI (extI mx x y) fun z => f (.d (.int k z))
 | _, _ => none
theorem extQ_eq (mx : Bool) (a b : AV) (f : AV → Option R) : extQ mx a b f = orN (extA mx a b) f := by
 unfold extQ extA
 cases a with
 | d x =>
  cases x with
  | int k m =>
   cases b with
   | d y => cases y <;> first | rfl | (dsimp only; rw [askI_eq]; rfl)
   | _ => rfl
  | _ => rfl
 | _ => rfl
def lenQ (ev : Operand → Option AV) (c : Call) (f : AV → Option R) : Option R := match extOp c.callee with
 | none => orN (lenA T ev c) f
 | some mx => match isLen c.callee, c.args.toList with
  | true, [x, y] => match ev x with
   | some a => match ev y with
    | some b => extQ mx a b f
    | none => none
   | none => none
  | _, _ => none
theorem lenQ_eq (ev : Operand → Option AV) (c : Call) (f : AV → Option R) : lenQ T ev c f = orN (lenA T ev c) f := by
 unfold lenQ
 cases he : extOp c.callee with
 | none => rfl
 | some mx =>
  dsimp only
  unfold lenA
  cases isLen c.callee with
  | false => rfl
  | true =>
   simp only [he, if_true]
   split
   ·rename_i x y h1 h2
    rw [h2]
    dsimp only
    cases ev x with
    | none => rfl
    | some a =>
     cases ev y with
     | none => rfl
     | some b => exact extQ_eq mx a b f
   ·rename_i hx
    split
    ·rename_i x y h2; exact (hx _ _ rfl h2).elim
    ·rfl
def stepQ (h : Hint) (nt : Nat) (o : Oper) (s : St) (f : St → Option R) : Option R :=
  match o.dst with
  | none => match o.op with
    | .store t p x => storeQ T t p x s f
    | _ => none
  | some d => match Nat.blt d nt with
    | true => match o.op with
      | .alloc t => allocQ T d t s f
      | .box t x => boxQ T d t x s f
      | .buildSlice t n parts => buildSliceQ T d t n parts.toList s f
      | .makeFunc _ _ _ => orN (stepOp T h nt o s) f
      | .load t p => match ev s.tm p with
        | some a => match loadA T s.g.bx t a with
          | some v => forceAV v fun v => putQ d v s f
          | none => none
        | none => none
      | .call c => match isAppend c.callee with
        | true => match c.args.toList, c.argTypes.toList with
          | [x, y], [t, t'] => match T t, T t' with
            | some ti, some t2 => match Nat.beq t t' || Nat.beq t2.kind 3 with
              | true => match h.raw.any (Nat.beq d ·) with
                | true => appendQ T true d ti t2 x y s f
                | false => appendQ T false d ti t2 x y s f
              | false => none
            | _, _ => none
          | _, _ => none
        | false => lenQ T (ev s.tm) c fun v => putQ d v s f
      | op => opQ T (ev s.tm) op fun v => forceAV v fun v => putQ d v s f
    | false => none
theorem stepQ_eq (h : Hint) (nt : Nat) (o : Oper) (s : St) (f : St → Option R) : stepQ T h nt o s f = orN (stepOp T h nt o s) f := by
 unfold stepQ stepOp
 simp only [forceAV_eq, putQ_eq, opQ_eq, storeQ_eq, allocQ_eq, boxQ_eq, buildSliceQ_eq]
 cases hd : o.dst with
 | none => cases ho : o.op <;> rfl
 | some d =>
  dsimp only
  cases hb : Nat.blt d nt with
  | false => rfl
  | true =>
   simp only [if_true]
   cases ho : o.op with
   | alloc _ => rfl
   | box _ _ => rfl
   | buildSlice _ _ _ => rfl
   | makeFunc g fi cs => simp only [stepOp, hd, hb, ho, if_true]
   | load t p =>
    dsimp only
    cases ev s.tm p with
    | none => rfl
    | some a =>
     dsimp only
     cases loadA T s.g.bx t a with
     | none => rfl
     | some v => rfl
   | call c =>
    dsimp only
    unfold callB
    cases hc : isAppend c.callee with
    | true =>
     simp only [if_true]
     split
     ·rename_i x y t t' h1 h2
      rw [h1, h2]
      dsimp only
      cases T t with
      | none => rfl
      | some ti =>
       cases T t' with
       | none => rfl
       | some t2 =>
        dsimp only
        cases (Nat.beq t t' || Nat.beq t2.kind 3) with
        | true =>
         dsimp only
         cases h.raw.any (Nat.beq d ·) with
         | true => exact appendQ_eq T true d ti t2 x y s f
         | false => exact appendQ_eq T false d ti t2 x y s f
        | false => rfl
     ·rename_i hne
      split
      ·rename_i x y t t' h1 h2; exact (hne _ _ _ _ h1 h2).elim
      ·rfl
    | false =>
     simp only [Bool.false_eq_true, if_false]
     rw [lenQ_eq]
     cases lenA T (ev s.tm) c with
     | none => rfl
     | some v => rfl
   | _ =>
    dsimp only
    cases opP T (ev s.tm) _ with
    | none => rfl
    | some v => rfl
def cookQ : List (Nat × Option Nat) → St → (St → Option R) → Option R
 | [], s, f => f s
 | p :: ps, s, f => stQ (cook1 p s) fun tm fr bx dp lp => cookQ ps ⟨tm, fr, ⟨bx, dp, lp⟩⟩ f
theorem cookQ_eq : ∀ (ps : List (Nat × Option Nat)) (s : St) (f : St → Option R), cookQ ps s f = f (cookAll ps s)
 | [], s, f => rfl
 | p :: ps, s, f => by
  unfold cookQ stQ
  exact cookQ_eq ps (cook1 p s) f
def resQ (nt : Nat) (dst : Option Nat) (rs : List AV) (s : St) (f : St → Option R) : Option R := match dst with
 | none => f s
 | some d => stQ s fun tm fr bx dp lp => match fr d with
  | true => none
  | false => match Nat.blt d nt with
   | true => forceAVs (renAVs dp d 0 rs) fun rs => f ⟨updQ tm d (some (match rs with
    | [a] => a
    | as => .tup as)), setFr fr d, ⟨bx, dp, lp⟩⟩
   | false => none
theorem resQ_eq (nt : Nat) (dst : Option Nat) (rs : List AV) (s : St) (f : St → Option R) : resQ nt dst rs s f = orN (putRes nt dst rs s) f := by
 obtain ⟨tm, fr, ⟨bx, dp, lp⟩⟩ := s
 unfold resQ putRes
 cases dst with
 | none => rfl
 | some d =>
  simp only [stQ, forceAVs_eq, updQ_eq]
  cases fr d with
  | true => rfl
  | false =>
   simp only [Bool.false_eq_true, if_false]
   cases Nat.blt d nt <;> rfl
structure CxQ (R : Type) where
 T : Nat → Option TI
 fuel : Nat
 C : Fn → List D → (Out → Option R) → Option R
 E : Cal → List AV → G → (Out → G → Option R) → Option R
 hint : Hint
 fid : FuncId
 nt : Nat
def CxQ.cx (q : CxQ R) (C : Fn → List D → Option Out) : Cx R := { T := q.T, fuel := q.fuel, C, E := q.E, hint := q.hint, fid := q.fid, nt := q.nt }
variable (cx : CxQ R)
def callEQ {R : Type} (cx : Cx R) (dst : Option Nat) (fn : Fn) (as : List AV) (s : St) (k : Ex → St → Option R) : Option R := match s with
 | ⟨tm, fr, ⟨bx, dp, lp⟩⟩ => match cx.hint.keep with
  | false => cx.E (.fn fn) as ⟨bx, dp, lp⟩ (behind cx dst ⟨tm, fr, ⟨bx, dp, lp⟩⟩ k)
  | true => match Nat.ble 1 dp && AV.uptos (dp - 1) as && lp.all (fun r => Nat.blt r.dp dp) with
   | true => cx.E (.fn fn) as (kG ⟨bx, dp, lp⟩) fun out g' => behindF cx (demFq (offD dp)) dst ⟨tm, fr, ⟨bx, dp, lp⟩⟩ k out (kunG ⟨bx, dp, lp⟩ g')
   | false => none
theorem callEQ_eq {R : Type} (cx : Cx R) (dst : Option Nat) (fn : Fn) (as : List AV) (s : St) (k : Ex → St → Option R) : callEQ cx dst fn as s k = callE cx dst fn as s k := by
 obtain ⟨tm, fr, ⟨bx, dp, lp⟩⟩ := s
 unfold callEQ callE
 dsimp only
 rw [show demFq (offD dp) = demF (offD dp) from funext (demFq_eq _)]
 cases cx.hint.keep with
 | false => rfl
 | true => cases (Nat.ble 1 dp && AV.uptos (dp - 1) as && lp.all (fun r => Nat.blt r.dp dp)) <;> rfl
def callQ (eff : Bool) (dst : Option Nat) (f : AV) (args : List AV) (s : St) (k : Ex → St → Option R) : Option R :=
 match f with
 | .d (.fn fn caps) => match AV.datas args with
  | some ds => cx.C fn (ds ++ caps) fun o => match o with
   | .ret rs => resQ cx.nt dst rs s fun s' => k .normal s'
   | .pan x => k (.panic x) s
  | none => match eff with
   | true => callEQ (cx.cx fun _ _ => none) dst fn (args.map ownData ++ caps.map .d) s k
   | false => none
 | .fn fn caps => match eff with
  | true => callEQ (cx.cx fun _ _ => none) dst fn (args.map ownData ++ caps) s k
  | false => none
 | .yld l => match eff && !cx.hint.keep with
  | true => cx.E (.yld l) (args.map ownData) s.g (behind (cx.cx fun _ _ => none) dst s k)
  | false => none
 | _ => none
variable (C : Fn → List D → Option Out) (hC : ∀ fn ds F, cx.C fn ds F = askC (C fn ds) F)
include hC
theorem callQ_eq (eff : Bool) (dst : Option Nat) (f : AV) (args : List AV) (s : St) (k : Ex → St → Option R) : callQ cx eff dst f args s k = callA (cx.cx C) eff dst f args s k := by
 unfold callQ callA
 simp only [callEQ_eq]
 cases f with
 | d x =>
  cases x with
  | fn fn caps =>
   dsimp only
   cases AV.datas args with
   | none => cases eff <;> rfl
   | some ds =>
    dsimp only
    rw [hC]
    rw [askC_eq]
    show _ = (match C fn (ds ++ caps) with
     | some (.ret rs) => match putRes cx.nt dst rs s with
      | some s' => k .normal s'
      | none => none
     | some (.pan x) => k (.panic x) s
     | none => none)
    cases C fn (ds ++ caps) with
    | none => rfl
    | some o =>
     cases o with
     | pan x => rfl
     | ret rs => dsimp only; rw [resQ_eq]; cases putRes cx.nt dst rs s <;> rfl
  | _ => rfl
 | fn fn caps => cases eff <;> rfl
 | yld l =>
  dsimp only
  show _ = if (eff && !cx.hint.keep) = true then _ else none
  cases (eff && !cx.hint.keep) <;> rfl
 | _ => rfl
omit hC
def runOpQ (eff : Bool) (o : Oper) (s : St) (k : Ex → St → Option R) : Option R :=
 match goCall o.op with
 | some (f, args) => match ev s.tm f, evs s.tm args with
  | some a, some as => match as.all noTup with
   | true => callQ cx eff o.dst a as s k
   | false => none
  | _, _ => none
 | none => stepQ cx.T cx.hint cx.nt o s fun s' => k .normal s'
include hC
theorem runOpQ_eq (eff : Bool) (o : Oper) (s : St) (k : Ex → St → Option R) : runOpQ cx eff o s k = runOp (cx.cx C) eff o s k := by
 unfold runOpQ runOp
 cases goCall o.op with
 | none => dsimp only; rw [stepQ_eq]; show _ = (match stepOp cx.T cx.hint cx.nt o s with
  | some s' => k .normal s'
  | none => none); cases stepOp cx.T cx.hint cx.nt o s <;> rfl
 | some p =>
  obtain ⟨f, args⟩ := p
  dsimp only
  cases ev s.tm f with
  | none => rfl
  | some a =>
   cases evs s.tm args with
   | none => rfl
   | some as =>
    dsimp only
    cases as.all noTup with
    | false => rfl
    | true => exact callQ_eq cx C hC _ _ _ _ _ _
omit hC
def skipQ (nt : Nat) (dst : Option Nat) (s : St) (f : St → Option R) : Option R := match dst with
 | some d => match Nat.blt d nt with
  | true => putQ d (.tup []) s f
  | false => none
 | none => f s
theorem skipQ_eq (nt : Nat) (dst : Option Nat) (s : St) (f : St → Option R) : skipQ nt dst s f = orN (putV nt dst (.tup []) s) f := by
 unfold skipQ putV
 cases dst with
 | none => rfl
 | some d => dsimp only; cases Nat.blt d nt with
  | true => dsimp only; rw [putQ_eq]; rfl
  | false => rfl
def runGQ (eff : Bool) (ops : Array Oper) (o : Oper) (s : St) (k : Ex → St → Option R) : Option R :=
 match o.guard with
 | none => runOpQ cx eff o s k
 | some (g, want) => match ops[g]? with
  | some og => match og.dst with
   | some t => match s.tm t with
    | some (.d (.bool b)) => askB b fun b => match b == want with
     | true => putQ t (.d (.bool b)) s fun s => runOpQ cx eff o s k
     | false => putQ t (.d (.bool b)) s fun s => skipQ cx.nt o.dst s fun s => k .normal s
    | some (.tup []) => skipQ cx.nt o.dst s fun s => k .normal s
    | _ => none
   | none => none
  | none => none
theorem updQ_same {tm : Nat → Option AV} {t : Nat} {v : Option AV} (h : tm t = v) : upd tm t v = tm := by
 funext u
 unfold upd
 split
 ·rename_i hu
  rw [Nat.eq_of_beq_eq_true hu, h]
 ·rfl
include hC
theorem runGQ_eq (eff : Bool) (ops : Array Oper) (o : Oper) (s : St) (k : Ex → St → Option R) : runGQ cx eff ops o s k = runG (cx.cx C) eff ops o s k := by
 unfold runGQ runG
 simp only [putQ_eq, skipQ_eq]
 have sk : (orN (putV cx.nt o.dst (.tup []) s) fun s => k .normal s) = (match putV cx.nt o.dst (.tup []) s with
  | some s' => k .normal s'
  | none => none) := by cases putV cx.nt o.dst (.tup []) s <;> rfl
 cases o.guard with
 | none => exact runOpQ_eq cx C hC eff o s k
 | some p =>
  obtain ⟨g, want⟩ := p
  dsimp only
  unfold guardV
  cases ops[g]? with
  | none => rfl
  | some og =>
   dsimp only
   cases og.dst with
   | none => rfl
   | some t =>
    dsimp only
    cases ht : s.tm t with
    | none => rfl
    | some v =>
     cases v with
     | d x =>
      cases x with
      | bool b =>
       dsimp only
       rw [askB_eq]
       have hs : ({ tm := upd s.tm t (some (.d (.bool b))), fr := s.fr, g := s.g } : St) = s := by
        rw [updQ_same ht]
       rw [hs]
       cases b == want
       ·exact sk
       ·exact runOpQ_eq cx C hC eff o s k
      | _ => rfl
     | tup xs =>
      cases xs with
      | nil => exact sk
      | cons _ _ => rfl
     | _ => rfl
omit hC
def runOpsQ (eff : Nat → Bool) (ops : Array Oper) : List Oper → Nat → St → (Ex → St → Option R) → Option R
 | [], _, s, k => k .normal s
 | o :: rest, i, s, k => runGQ cx (eff i) ops o s fun e s' => match e with
  | .normal => runOpsQ eff ops rest (i + 1) s' k
  | e => k e s'
include hC
theorem runOpsQ_eq (eff : Nat → Bool) (ops : Array Oper) : ∀ (os : List Oper) (i : Nat) (s : St) (k : Ex → St → Option R), runOpsQ cx eff ops os i s k = runOps (cx.cx C) eff ops os i s k
 | [], _, s, k => rfl
 | o :: rest, i, s, k => by
  unfold runOpsQ runOps
  rw [runGQ_eq cx C hC]
  congr 1
  funext e s'
  cases e <;> first | rfl | exact runOpsQ_eq eff ops rest _ _ _
omit hC
def runCQ (eff : Bool) (ops : Array Oper) (o : Oper) (s : St) (k : Ex → St → Option R) : Option R := match eff && !ownLd o s with
 | true => none
 | false => runGQ cx eff ops o s k
def runOpsCQ (eff : Nat → Bool) (ops : Array Oper) : List Oper → Nat → St → (Ex → St → Option R) → Option R
 | [], _, s, k => k .normal s
 | o :: rest, i, s, k => runCQ cx (eff i) ops o s fun e s' => match e with
  | .normal => runOpsCQ eff ops rest (i + 1) s' k
  | e => k e s'
include hC
theorem runCQ_eq (eff : Bool) (ops : Array Oper) (o : Oper) (s : St) (k : Ex → St → Option R) : runCQ cx eff ops o s k = runC (cx.cx C) eff ops o s k := by
 unfold runCQ runC
 cases eff && !ownLd o s
 ·exact runGQ_eq cx C hC _ _ _ _ _
 ·rfl
theorem runOpsCQ_eq (eff : Nat → Bool) (ops : Array Oper) : ∀ (os : List Oper) (i : Nat) (s : St) (k : Ex → St → Option R), runOpsCQ cx eff ops os i s k = runOpsC (cx.cx C) eff ops os i s k
 | [], _, s, k => rfl
 | o :: rest, i, s, k => by
  unfold runOpsCQ runOpsC
  rw [runCQ_eq cx C hC]
  congr 1
  funext e s'
  cases e <;> first | rfl | exact runOpsCQ_eq eff ops rest _ _ _
omit hC
def runNQ (eff : Nat → Bool) (ops : Array Oper) : List Nat → St → (St → Option R) → Option R
 | [], s, k => k s
 | i :: rest, s, k => match ops[i]? with
  | some o => runCQ cx (eff i) ops o s fun e s' => match e with
   | .normal => runNQ eff ops rest s' k
   | _ => none
  | none => none
def runPanQ (eff : Nat → Bool) (ops : Array Oper) (e : Nat) (is ds : List Nat) (s : St) (k : Ex → St → Option R) : Option R := runNQ cx eff ops is s fun s1 => match ops[e]? with
 | some o => runCQ cx (eff e) ops o s1 fun ex s2 => match ex with
  | .normal => runNQ cx eff ops ds s2 (k .normal)
  | .panic x => k (.panic x) (bareSt s2.g)
  | _ => none
 | none => none
include hC
theorem runNQ_eq (eff : Nat → Bool) (ops : Array Oper) : ∀ (l : List Nat) (s : St) (k : St → Option R), runNQ cx eff ops l s k = runN (cx.cx C) eff ops l s k
 | [], s, k => rfl
 | i :: rest, s, k => by
  unfold runNQ runN
  cases ops[i]? with
  | none => rfl
  | some o =>
   dsimp only
   rw [runCQ_eq cx C hC]
   congr 1
   funext e s'
   cases e <;> first | rfl | exact runNQ_eq eff ops rest _ _
theorem runPanQ_eq (eff : Nat → Bool) (ops : Array Oper) (e : Nat) (is ds : List Nat) (s : St) (k : Ex → St → Option R) : runPanQ cx eff ops e is ds s k = runPan (cx.cx C) eff ops e is ds s k := by
 unfold runPanQ runPan
 rw [runNQ_eq cx C hC]
 congr 1
 funext s1
 cases ops[e]? with
 | none => rfl
 | some o =>
  dsimp only
  rw [runCQ_eq cx C hC]
  congr 1
  funext ex s2
  cases ex <;> first | rfl | exact runNQ_eq cx C hC eff ops ds _ _
omit hC
def runOpsPQ (ops : Array Oper) : List Oper → Nat → St → (Ex → St → Option R) → Option R
 | [], _, s, k => k .normal s
 | o :: rest, i, s, k => match panicOp o with
  | some x => match ev s.tm x with
   | some (.d (.iface t v)) => k (.panic (.iface t v)) s
   | _ => none
  | none => runGQ cx true ops o s fun e s' => match e with
   | .normal => runOpsPQ ops rest (i + 1) s' k
   | e => k e s'
include hC
theorem runOpsPQ_eq (ops : Array Oper) : ∀ (os : List Oper) (i : Nat) (s : St) (k : Ex → St → Option R), runOpsPQ cx ops os i s k = runOpsP (cx.cx C) ops os i s k
 | [], _, s, k => rfl
 | o :: rest, i, s, k => by
  unfold runOpsPQ runOpsP
  cases panicOp o with
  | some x => rfl
  | none =>
   dsimp only
   rw [runGQ_eq cx C hC]
   congr 1
   funext e s'
   cases e <;> first | rfl | exact runOpsPQ_eq ops rest _ _ _
omit hC
def runOQ (ops : Array Oper) : List Nat → St → (St → Option R) → Option R
 | [], s, k => k s
 | i :: rest, s, k => match ops[i]? with
  | some o => runGQ cx false ops o s fun e s' => match e with
   | .normal => runOQ ops rest s' k
   | _ => none
  | none => none
def runOsQ [Same R] (ops : Array Oper) : List (List Nat) → St → (St → Option R) → Option R
 | [], _, _ => none
 | w :: ws, s, k => match ws with
  | [] => runOQ cx ops w s k
  | _ :: _ => askB2 (runOQ cx ops w s k) (runOsQ ops ws s k)
include hC
theorem runOQ_eq (ops : Array Oper) : ∀ (w : List Nat) (s : St) (k : St → Option R), runOQ cx ops w s k = runO (cx.cx C) ops w s k
 | [], s, k => rfl
 | i :: rest, s, k => by
  unfold runOQ runO
  cases ops[i]? with
  | none => rfl
  | some o =>
   dsimp only
   rw [runGQ_eq cx C hC]
   congr 1
   funext e s'
   cases e <;> first | rfl | exact runOQ_eq ops rest _ _
theorem runOsQ_eq [Same R] (ops : Array Oper) : ∀ (os : List (List Nat)) (s : St) (k : St → Option R), runOsQ cx ops os s k = runOs (cx.cx C) ops os s k
 | [], s, k => rfl
 | w :: ws, s, k => by
  unfold runOsQ runOs
  cases ws with
  | nil => exact runOQ_eq cx C hC ops w s k
  | cons w1 ws =>
   dsimp only
   rw [askB2_eq, runOQ_eq cx C hC ops w s k, runOsQ_eq ops (w1 :: ws) s k]
omit hC
def condQ (c : Operand) (b : Bool) (s : St) (f : St → Option R) : Option R := match c with
 | .tmp t => putQ t (.d (.bool b)) s f
 | _ => f s
theorem condQ_eq {c : Operand} {b : Bool} {s : St} (h : ev s.tm c = some (.d (.bool b))) (f : St → Option R) : condQ c b s f = f s := by
 unfold condQ
 split
 ·rw [putQ_eq, updQ_same h]
 ·rfl
def execQ [Same R] : Code → St → (Ex → St → Option R) → Option R
 | .skip, s, k => k .normal s
 | .label _, s, k => k .normal s
 | .exit id, s, k => k (.exit id) s
 | .goto l, s, k => k (.goto l) s
 | .ret, s, k => k .ret s
 | .seq a b, s, k => execQ a s fun e s' => match e with
  | .normal => execQ b s' k
  | e => k e s'
 | .cond c a b, s, k => match ev s.tm c with
  | some (.d (.bool t)) => askB t fun t => condQ c t s fun s => match t with
   | true => execQ a s k
   | false => execQ b s k
  | _ => none
 | .block id c, s, k => execQ c s fun e s' => match e with
  | .exit i => match Nat.beq i id with
   | true => k .normal s'
   | false => k (.exit i) s'
  | e => k e s'
 | .loop c, s, k => loopN cx.hint (firstRegion c) (fun s k => execQ c s k) cx.fuel s k
 | .scope c, s, k => execQ c s fun e s' => match e with
  | .goto _ => none
  | e => k e s'
 | .region id ops draw, s, k =>
  match draw with
  | true => match cx.hint.ord id with
   | none => match cx.hint.pan id with
    | none => runOpsCQ cx (cx.hint.eff id) ops ops.toList 0 s fun e s => match e with
     | .normal => cookQ (cx.hint.cook id) s fun s => k .normal s
     | _ => none
    | some (e, is, ds) => runPanQ cx (cx.hint.eff id) ops e is ds s fun e s => match e with
     | .normal => cookQ (cx.hint.cook id) s fun s => k .normal s
     | e => k e s
   | some (_, os) => runOsQ cx ops os s fun s => cookQ (cx.hint.cook id) s fun s => k .normal s
  | false => runOpsPQ cx ops ops.toList 0 s fun e s => match e with
   | .normal => cookQ (cx.hint.cook id) s fun s => k .normal s
   | e => k e s
 | .rangeFunc f params assign body, s, k =>
  match ev s.tm f with
  | some a =>
   let tm := mapTm demAll s.tm
   let done : Out → G → Option R := fun out g => match out with
    | .ret _ => match g.lp[s.g.lp.length]? with
     | some r => match r.pend with
      | some .normal => none
      | none => k .normal { tm, fr := fun _ => false, g := { g with lp := g.lp.take s.g.lp.length } }
      | some e => k e { tm, fr := fun _ => false, g := { g with lp := g.lp.take s.g.lp.length } }
     | none => none
    | .pan _ => none
   match a with
   | .d (.fn fn caps) => cx.E (.fn fn) (.yld s.g.lp.length :: caps.map .d) (enterRange (cx.cx fun _ _ => none) tm s params.toList assign body) done
   | .fn fn caps => cx.E (.fn fn) (.yld s.g.lp.length :: caps) (enterRange (cx.cx fun _ _ => none) tm s params.toList assign body) done
   | _ => none
  | none => none
 | .refuse _, _, _ => none
include hC
theorem execQ_eq [Same R] : ∀ (c : Code) (s : St) (k : Ex → St → Option R), execQ cx c s k = exec (cx.cx C) c s k
 | .skip, s, k => rfl
 | .label _, s, k => rfl
 | .exit id, s, k => rfl
 | .goto l, s, k => rfl
 | .ret, s, k => rfl
 | .seq a b, s, k => by
  simp only [execQ, exec]
  rw [execQ_eq a]
  congr 1
  funext e s'
  cases e <;> first | rfl | exact execQ_eq b _ _
 | .cond c a b, s, k => by
  simp only [execQ, exec]
  cases hc : ev s.tm c with
  | none => rfl
  | some v =>
   cases v with
   | d x =>
    cases x with
    | bool t =>
     dsimp only
     rw [askB_eq, condQ_eq hc]
     cases t <;> first | exact execQ_eq a s k | exact execQ_eq b s k
    | _ => rfl
   | _ => rfl
 | .block id c, s, k => by
  simp only [execQ, exec]
  rw [execQ_eq c]
  congr 1
  funext e s'
  cases e with
  | exit i => dsimp only; cases Nat.beq i id <;> rfl
  | _ => rfl
 | .loop c, s, k => by
  simp only [execQ, exec]
  have : (fun s k => execQ cx c s k) = (fun s k => exec (cx.cx C) c s k) := by funext s k; exact execQ_eq c s k
  rw [this]
  rfl
 | .scope c, s, k => by
  simp only [execQ, exec]
  rw [execQ_eq c]
  congr 1
 | .region id ops draw, s, k => by
  simp only [execQ, exec, cookQ_eq]
  cases draw
  ·refine (runOpsPQ_eq cx C hC _ _ _ _ _).trans ?_
   congr 1
  ·show (match cx.hint.ord id with
    | none => _
    | some (_, os) => _) = (match cx.hint.ord id with
    | none => _
    | some (_, os) => _)
   cases cx.hint.ord id with
   | none =>
    show (match cx.hint.pan id with
     | none => _
     | some (_, _, _) => _) = (match cx.hint.pan id with
     | none => _
     | some (_, _, _) => _)
    cases cx.hint.pan id with
    | none => exact runOpsCQ_eq cx C hC _ _ _ _ _ _
    | some q =>
     obtain ⟨e, is, ds⟩ := q
     refine (runPanQ_eq cx C hC _ _ _ _ _ _ _).trans ?_
     congr 1
   | some q => exact runOsQ_eq cx C hC _ _ _ _
 | .rangeFunc f params assign body, s, k => rfl
 | .refuse _, s, k => rfl
omit hC
def execDQ [Same R] : Code → St → (Ex → St → Option R) → (AV → Ex → St → Option R) → Option R
 | .seq a b, s, k, kd => match deferIn a with
  | some (ops, x) => runOpsQ cx (fun _ => true) ops (ops.toList.take (ops.size - 1)) 0 s fun e s' => match e with
   | .normal => match ev s'.tm x with
    | some f => match cloQ f with
     | true => execQ cx b (deeper s') (kd f)
     | false => none
    | none => none
   | _ => none
  | none => execQ cx a s fun e s' => match e with
   | .normal => execDQ b s' k kd
   | e => k e s'
 | c, s, k, _ => execQ cx c s k
def stepsSQ (ops : Array Oper) : List Oper → St → (St → Option R) → Option R
 | [], s, k => k s
 | o :: rest, s, k => match o.guard, goCall o.op with
  | none, none => stepQ cx.T cx.hint cx.nt o s fun s' => stepsSQ ops rest s' k
  | _, _ => none
def runRecQ [Same R] (d : Nat) (ops : Array Oper) (b : Code) (rv : D) (s : St) (k : Ex → St → Option R) : Option R :=
 match Nat.blt d cx.nt with
 | true => stQ s fun tm fr bx dp lp => stepsSQ cx ops (ops.toList.drop 1) ⟨updQ tm d (some (.d rv)), fr, ⟨bx, dp, lp⟩⟩ fun s => execQ cx b s k
 | false => none
include hC
theorem execDQ_eq [Same R] : ∀ (c : Code) (s : St) (k : Ex → St → Option R) (kd : AV → Ex → St → Option R), execDQ cx c s k kd = execD (cx.cx C) c s k kd := by
 intro c
 induction c with
 | seq a b iha ihb =>
  intro s k kd
  unfold execDQ execD
  cases deferIn a with
  | some q =>
   obtain ⟨ops, x⟩ := q
   dsimp only
   rw [runOpsQ_eq cx C hC]
   congr 1
   funext e s'
   cases e with
   | normal =>
    dsimp only
    cases ev s'.tm x with
    | none => rfl
    | some f =>
     dsimp only
     cases cloQ f with
     | false => rfl
     | true => exact execQ_eq cx C hC _ _ _
   | _ => rfl
  | none =>
   dsimp only
   rw [execQ_eq cx C hC]
   congr 1
   funext e s'
   cases e <;> first | rfl | exact ihb _ _ _
 | _ =>
  intro s k kd
  unfold execDQ execD
  exact execQ_eq cx C hC _ _ _
theorem stepsSQ_eq (ops : Array Oper) : ∀ (l : List Oper) (s : St) (k : St → Option R), stepsSQ cx ops l s k = stepsS (cx.cx C) ops l s k
 | [], s, k => rfl
 | o :: rest, s, k => by
  unfold stepsSQ stepsS
  cases o.guard with
  | some _ => rfl
  | none =>
   cases goCall o.op with
   | some _ => rfl
   | none =>
    dsimp only
    rw [stepQ_eq]
    show _ = (match stepOp cx.T cx.hint cx.nt o s with
     | some s' => stepsS (cx.cx C) ops rest s' k
     | none => none)
    cases stepOp cx.T cx.hint cx.nt o s with
    | none => rfl
    | some s' => exact stepsSQ_eq ops rest s' k
theorem runRecQ_eq [Same R] (d : Nat) (ops : Array Oper) (b : Code) (rv : D) (s : St) (k : Ex → St → Option R) : runRecQ cx d ops b rv s k = runRec (cx.cx C) d ops b rv s k := by
 obtain ⟨tm, fr, ⟨bx, dp, lp⟩⟩ := s
 unfold runRecQ runRec stQ
 show (match Nat.blt d cx.nt with
  | true => _
  | false => none) = if Nat.blt d cx.nt then _ else none
 cases Nat.blt d cx.nt with
 | false => rfl
 | true =>
  dsimp only
  rw [updQ_eq, stepsSQ_eq cx C hC]
  simp only [if_true]
  congr 1
  funext s
  exact execQ_eq cx C hC _ _ _
end
def recCallQ [Asks] {R : Type} [Same R] (p : Pr) (cxOf : FuncId → Func → CxQ R) (d1 : Nat) (f' : FuncId) (caps : List AV) (rv : D) (g : G) (k : Ex → St → Option R) : Option R :=
 match p.F f' with
 | some F' => match recOf F' with
  | some (d, ops, b) => match Nat.ble caps.length F'.ntmps && (p.H f').flat with
   | true => runRecQ (cxOf f' F') d ops b rv { tm := argTm caps, fr := fun _ => false, g := { popG g (d1 + 1) with dp := d1 + 1 } } k
   | false => none
  | none => none
 | none => none
def recAVQ [Asks] {R : Type} [Same R] (p : Pr) (cxOf : FuncId → Func → CxQ R) (d1 : Nat) (a : AV) (rv : D) (g : G) (k : Ex → St → Option R) : Option R := match a with
 | .fn (.func f') caps => recCallQ p cxOf d1 f' caps rv g k
 | .d (.fn (.func f') ds) => recCallQ p cxOf d1 f' (ds.map .d) rv g k
 | _ => none
theorem recAVQ_eq [Asks] {R : Type} [Same R] (p : Pr) (cxOf : FuncId → Func → CxQ R) (C : Fn → List D → Option Out) (hC : ∀ f F fn ds K, (cxOf f F).C fn ds K = askC (C fn ds) K) (d1 : Nat) (a : AV) (rv : D) (g : G) (k : Ex → St → Option R) :
  recAVQ p cxOf d1 a rv g k = recAV p (fun f F => (cxOf f F).cx C) d1 a rv g k := by
 have key : ∀ f' caps, recCallQ p cxOf d1 f' caps rv g k = recCall p (fun f F => (cxOf f F).cx C) d1 f' caps rv g k := by
  intro f' caps
  unfold recCallQ recCall
  cases p.F f' with
  | none => rfl
  | some F' =>
   dsimp only
   cases recOf F' with
   | none => rfl
   | some q =>
    obtain ⟨d, ops, b⟩ := q
    dsimp only
    cases Nat.ble caps.length F'.ntmps && (p.H f').flat with
    | false => rfl
    | true => exact runRecQ_eq (cxOf f' F') C (hC f' F') _ _ _ _ _ _
 unfold recAVQ recAV
 cases a with
 | fn f caps => cases f <;> first | rfl | exact key _ _
 | d x =>
  cases x with
  | fn f ds => cases f <;> first | rfl | exact key _ _
  | _ => rfl
 | _ => rfl
def runQ [Asks] (p : Pr) : Nat → (R : Type) → [Same R] → Cal → List AV → G → (Out → G → Option R) → Option R
  | 0, _, _, _, _, _, _ => none
  | n + 1, R, _, c, args, g, k =>
    let C : Fn → List D → (Out → Option R) → Option R := fun fn ds F => match fn with
      | .func f => match p.K f with
        | some kf => askC (kf ds) F
        | none => forceArgs (nrmArgs p f ds) fun ds => askC (runQ p n Out (.fn (.func f)) (ds.map .d) G0 purify) F
      | _ => none
    match c with
    | .fn (.func f) => match p.X f with
      | some x => match x args g with
        | some (c, out, g') => askT c (k out g')
        | none => none
      | none => match p.F f with
        | some F => match F.body with
          | some code => match Nat.ble args.length F.ntmps with
            | true =>
              let cx : CxQ R := { T := p.T, fuel := p.fuel, C, E := hideE (p.H f).hide (runQ p n R), hint := p.H f, fid := f, nt := F.ntmps }
              let s0 : St := { tm := argTm args, fr := fun _ => false, g := { g with dp := g.dp + 1 } }
              let done : St → Option R := fun s => match resVars p.T s F.results.toList with
                | some rs => match retRes s.g.bx (g.dp + 1) 0 [] rs with
                  | some rs' => forceRes rs' fun rs' => k (.ret rs') (popG { s.g with bx := demRes rs s.g.bx } (g.dp + 1))
                  | none => none
                | none => none
              let fin : Ex → St → Option R := fun e s => match e with
                | .panic x => k (.pan x) (popG s.g (g.dp + 1))
                | .exit _ => none
                | .goto _ => none
                | _ => done s
              match (p.H f).dfr with
              | false => execQ cx code s0 fin
              | true => match (p.H f).flat with
                | false => none
                | true =>
                  let cxOf : FuncId → Func → CxQ R := fun f' F' => { T := p.T, fuel := p.fuel, C, E := hideE (p.H f').hide (runQ p n R), hint := p.H f', fid := f', nt := F'.ntmps }
                  execDQ cx code s0 fin fun a e s => match e with
                    | .panic x => recAVQ p cxOf (g.dp + 1) a x s.g (afterRec (g.dp + 1) s.tm done)
                    | .normal => recAVQ p cxOf (g.dp + 1) a .nili s.g (afterRec (g.dp + 1) s.tm done)
                    | .ret => recAVQ p cxOf (g.dp + 1) a .nili s.g (afterRec (g.dp + 1) s.tm done)
                    | _ => none
            | false => none
          | none => none
        | none => none
    | .fn _ => none
    | .yld l => match g.lp[l]? with
      | some r => match r.pend, AV.datas args with
        | none, some ds =>
          let cx : CxQ R := { T := p.T, fuel := p.fuel, C, E := hideE r.hint.hide (runQ p n R), hint := r.hint, fid := r.fid, nt := r.nt }
          match Nat.beq ds.length r.params.length && distinct r.params && r.params.all (Nat.blt · r.nt) with
          | true =>
            execQ cx r.assign { tm := fun t => match look (r.params.zip (ds.map fun x => some (AV.d x))) t with
              | some a => some a
              | none => r.tm t, fr := fun _ => false, g := { g with dp := g.dp + 1 } } fun e s => match e with
                | .normal => match s.g.lp[l]? with
                  | some r1 => match r1.pend with
                    | none => execQ cx r.body { tm := s.tm, fr := s.fr, g := setPend l (some .normal) s.g } fun e s => match e with
                      | .normal => k (.ret [.d (.bool true)]) (setPend l none (popG s.g (g.dp + 1)))
                      | .panic _ => none
                      | e => k (.ret [.d (.bool false)]) (setPend l (some e) (popG s.g (g.dp + 1)))
                    | some _ => none
                  | none => none
                | _ => none
          | false => none
        | _, _ => none
      | none => none
theorem runQ_eq [Asks] (p : Pr) : ∀ n, @runQ _ p n = @run p n := by
 intro n
 induction n with
 | zero => rfl
 | succ n ih =>
  funext R _ c args g k
  unfold runQ run
  rw [ih]
  simp only [forceRes_eq]
  have hC : ∀ (R : Type) (fn : Fn) (ds : List D) (F : Out → Option R), (fun (fn : Fn) (ds : List D) (F : Out → Option R) => match fn with
    | .func f => match p.K f with
     | some kf => askC (kf ds) F
     | none => forceArgs (nrmArgs p f ds) fun ds => askC (run p n Out (.fn (.func f)) (ds.map .d) G0 purify) F
    | _ => none) fn ds F = askC ((fun (fn : Fn) (ds : List D) => match fn with
    | .func f => match p.K f with
     | some kf => kf ds
     | none => run p n Out (.fn fn) ((nrmArgs p f ds).map .d) G0 purify
    | _ => none) fn ds) F := by
   intro R fn ds F
   cases fn with
   | func f =>
    dsimp only
    cases p.K f with
    | none => dsimp only; rw [forceArgs_eq]
    | some kf => rfl
   | _ => dsimp only; rw [askC_eq]
  cases c with
  | fn fn =>
   cases fn with
   | func f =>
    dsimp only
    cases p.X f with
    | some x =>
     dsimp only
     cases x args g with
     | none => rfl
     | some q => obtain ⟨c, out, g'⟩ := q; dsimp only; rw [askT_eq]; rfl
    | none =>
    dsimp only
    cases p.F f with
    | none => rfl
    | some F =>
     dsimp only
     cases F.body with
     | none => rfl
     | some code =>
      dsimp only
      cases Nat.ble args.length F.ntmps with
      | false => rfl
      | true =>
       dsimp only
       cases (p.H f).dfr with
       | false => dsimp only; rw [execQ_eq _ _ (hC R)]; rfl
       | true =>
        dsimp only
        cases (p.H f).flat with
        | false => rfl
        | true =>
         dsimp only
         rw [execDQ_eq _ _ (hC R)]
         congr 1
         funext a e s
         cases e with
         | panic x => exact recAVQ_eq p _ _ (fun _ _ => hC R) _ _ _ _ _
         | normal => exact recAVQ_eq p _ _ (fun _ _ => hC R) _ _ _ _ _
         | ret => exact recAVQ_eq p _ _ (fun _ _ => hC R) _ _ _ _ _
         | exit _ => rfl
         | goto _ => rfl
   | _ => rfl
  | yld l =>
   dsimp only
   cases g.lp[l]? with
   | none => rfl
   | some r =>
    dsimp only
    cases r.pend with
    | some _ => rfl
    | none =>
     cases AV.datas args with
     | none => rfl
     | some ds =>
      dsimp only
      cases Nat.beq ds.length r.params.length && distinct r.params && r.params.all (Nat.blt · r.nt) with
      | false => rfl
      | true =>
       rw [execQ_eq _ _ (hC R)]
       simp only [if_true]
       congr 1
       funext e s
       cases e with
       | normal =>
        dsimp only
        cases s.g.lp[l]? with
        | none => rfl
        | some r1 =>
         dsimp only
         cases r1.pend with
         | some _ => rfl
         | none => dsimp only; rw [execQ_eq _ _ (hC R)]; rfl
       | _ => rfl
end Go.Abs
namespace Go.Abs
open Go Asks
set_option linter.unusedVariables false
set_option linter.unusedSimpArgs false
set_option linter.unusedSectionVars false
mutual
 def D.firm : D → Bool
  | .iface _ x => D.firm x
  | .sl _ es => D.firmss es
  | .full _ es => D.firmss es
  | .fn (.func _) cs => D.firms cs
  | .fn _ _ => false
  | .at cs => D.firms cs
  | .agg cs => D.firms cs
  | _ => true
 def D.firms : List D → Bool
  | [] => true
  | x :: xs => D.firm x && D.firms xs
 def D.firmss : List (List D) → Bool
  | [] => true
  | x :: xs => D.firms x && D.firmss xs
end
mutual
 theorem D.same_self : ∀ x : D, D.firm x = true → D.same x x = true
  | .bool _, _ | .int _ _, _ | .str _, _ | .nilp, _ | .nilf, _ | .nili, _ | .nilm, _ | .nils, _ | .emp _, _ => by simp [D.same]
  | .iface t x, h => by simp only [D.firm] at h; simp [D.same, D.same_self x h]
  | .sl z es, h => by simp only [D.firm] at h; simp [D.same, D.samess_self es h]
  | .full z es, h => by simp only [D.firm] at h; simp [D.same, D.samess_self es h]
  | .fn (.func f) cs, h => by simp only [D.firm] at h; simp [D.same, D.sames_self cs h]
  | .at cs, h => by simp only [D.firm] at h; simp [D.same, D.sames_self cs h]
  | .agg cs, h => by simp only [D.firm] at h; simp [D.same, D.sames_self cs h]
 theorem D.sames_self : ∀ x : List D, D.firms x = true → D.sames x x = true
  | [], _ => rfl
  | x :: xs, h => by simp only [D.firms, Bool.and_eq_true] at h; simp [D.sames, D.same_self x h.1, D.sames_self xs h.2]
 theorem D.samess_self : ∀ x : List (List D), D.firmss x = true → D.samess x x = true
  | [], _ => rfl
  | x :: xs, h => by simp only [D.firmss, Bool.and_eq_true] at h; simp [D.samess, D.sames_self x h.1, D.samess_self xs h.2]
end
def AV.firm : AV → Bool
 | .d x => D.firm x
 | .own _ _ es => D.firmss es
 | _ => false
theorem AV.same_self : ∀ a : AV, AV.firm a = true → AV.same a a = true
 | .d x, h => D.same_self x h
 | .own i z es, h => by simp [AV.same, D.samess_self es h]
theorem AV.sames_self : ∀ as : List AV, as.all AV.firm = true → AV.sames as as = true
 | [], _ => rfl
 | a :: as, h => by
  simp only [List.all_cons, Bool.and_eq_true] at h
  simp [AV.sames, AV.same_self a h.1, AV.sames_self as h.2]
theorem Out.same_self {rs : List AV} (h : rs.all AV.firm = true) : Same.same (Out.ret rs) (Out.ret rs) = true := AV.sames_self rs h
def Evx {R : Type} (F : Nat → Option R) (r : R) : Prop := ∃ N, ∀ i, N ≤ i → F i = some r
def Ev [Asks] (q : Nat → Pr) (f : FuncId) (ds : List D) (o : Out) : Prop := ∀ c, Evx (fun i => runQ (q i) (i - c) Out (.fn (.func f)) (ds.map .d) G0 purify) o
section
variable [Asks] {R : Type} {q : Nat → Pr}
theorem Evx.pure {v r : R} (h : v = r) : Evx (fun _ => some v) r := ⟨0, fun _ _ => by rw [h]⟩
theorem Evx.to {F : Nat → Option R} {r r' : R} (h : Evx F r') (e : r' = r) : Evx F r := e ▸ h
theorem Evx.of_eq {F G : Nat → Option R} {r : R} (h : Evx G r) (e : ∀ i, F i = G i) : Evx F r := by
 obtain ⟨N, h⟩ := h
 exact ⟨N, fun i hi => by rw [e]; exact h i hi⟩
theorem Evx.ask {X : Nat → Option Out} {o : Out} {F : Nat → Out → Option R} {r : R} (h : Evx X o) (h2 : Evx (fun i => F i o) r) : Evx (fun i => askC (X i) (F i)) r := by
 obtain ⟨N, h⟩ := h
 obtain ⟨M, h2⟩ := h2
 refine ⟨N + M, fun i hi => ?_⟩
 dsimp only
 rw [askC_eq, h i (by omega)]
 exact h2 i (by omega)
theorem Evx.call {f : FuncId} {ds : List D} {o : Out} {c : Nat} {F : Nat → Out → Option R} {r : R} (h : Ev q f ds o) (h2 : Evx (fun i => F i o) r) : Evx (fun i => askC (runQ (q i) (i - c) Out (.fn (.func f)) (ds.map .d) G0 purify) (F i)) r :=
 Evx.ask (h c) h2
theorem Evx.bool {c : Bool} {F G : Nat → Option R} {r : R} (h1 : c = true → Evx F r) (h2 : c = false → Evx G r) : Evx (fun i => match c with
  | true => F i
  | false => G i) r := by
 cases c
 ·exact h2 rfl
 ·exact h1 rfl
theorem Evx.int {n n' : Int} {F : Nat → Int → Option R} {r : R} (h : n = n') (h2 : Evx (fun i => F i n') r) : Evx (fun i => askI n (F i)) r := by
 subst h
 simp only [askI_eq]
 exact h2
theorem Evx.idx {es : List (List D)} {n : Int} {m : Nat} {e : List D} {F : Nat → List D → Option R} {r : R} (hn : n = m) (he : es[m]? = some e) (h2 : Evx (fun i => F i e) r) : Evx (fun i => askIdx es n (F i)) r := by
 subst hn
 simpa [askIdx_eq, he] using h2
theorem Evx.chr {s : ByteArray} {n : Int} {m : Nat} {e : UInt8} {F : Nat → UInt8 → Option R} {r : R} (hn : n = m) (he : s[m]? = some e) (h2 : Evx (fun i => F i e) r) : Evx (fun i => askChr s n (F i)) r := by
 subst hn
 simpa [askChr_eq, he] using h2
theorem Evx.must {c : Bool} {F : Nat → Option R} {r : R} (h : c = true) (h2 : Evx F r) : Evx (fun i => askT c (F i)) r := by
 subst h
 simp only [askT_eq]
 exact h2
theorem Evx.appd {n m : Nat} {F : Nat → Option R} {r : R} (e : n = m) (h : m ≤ 1099511627776) (h2 : Evx F r) : Evx (fun i => askT (Nat.ble n most) (F i)) r :=
 Evx.must (by subst e; exact Nat.ble_eq_true_of_le h) h2
theorem Evx.mustP {c : Prop} {dc : Decidable c} {F : Nat → Option R} {r : R} (h : c) (h2 : Evx F r) : Evx (fun i => @askP _ R c dc (F i)) r := by
 simp only [askP_eq, if_pos h]
 exact h2
theorem Evx.two [Same R] {F G : Nat → Option R} {r : R} (hr : Same.same r r = true) (h1 : Evx F r) (h2 : Evx G r) : Evx (fun i => askB2 (F i) (G i)) r := by
 obtain ⟨N, h1⟩ := h1
 obtain ⟨M, h2⟩ := h2
 refine ⟨N + M, fun i hi => ?_⟩
 dsimp only
 rw [askB2_eq, h1 i (by omega), h2 i (by omega)]
 unfold both
 dsimp only
 rw [hr]
 rfl
theorem Evx.enter [Same R] {c : Nat} {cal : Cal} {args : Nat → List AV} {g : Nat → G} {k : Nat → Out → G → Option R} {r : R} (h : Evx (fun i => runQ (q i) (i - (c + 1) + 1) R cal (args i) (g i) (k i)) r) : Evx (fun i => runQ (q i) (i - c) R cal (args i) (g i) (k i)) r := by
 obtain ⟨N, h⟩ := h
 refine ⟨N + c + 1, fun i hi => ?_⟩
 have := h i (by omega)
 dsimp only at this ⊢
 rwa [show i - (c + 1) + 1 = i - c by omega] at this
theorem Ev.enter {f : FuncId} {ds : List D} {o : Out} (h : ∀ c, Evx (fun i => runQ (q i) (i - (c + 1) + 1) Out (.fn (.func f)) (ds.map .d) G0 purify) o) : Ev q f ds o := fun c => (h c).enter
theorem Ev.of_run {f : FuncId} {ds : List D} {o : Out} (N : Nat) (h : ∀ n k, run (q (k + N)) (n + N) Out (.fn (.func f)) (ds.map .d) G0 purify = some o) : Ev q f ds o := by
 intro c
 refine ⟨c + N, fun i hi => ?_⟩
 have := h (i - c - N) (i - N)
 rw [show i - N + N = i by omega, show i - c - N + N = i - c by omega] at this
 dsimp only
 rw [runQ_eq]
 exact this
end
def lookZ {β γ : Type} : List (Nat × β) → List (Option γ) → Nat → Option γ
 | p :: kt, v :: tv, t => match Nat.beq t p.1 with
  | true => v
  | false => lookZ kt tv t
 | _, _, _ => none
def mkHead (h : Hint) (id : Nat) (tv : List (Option AV)) (bv : List (Option Box)) (bx0 : Nat → Nat → Option Box) (dp : Nat) (lp : List LoopRec) : St := match h.loops id with
 | some (kt, kb) => ⟨lookZ kt tv, fun t => kt.any fun p => Nat.beq p.1 t && p.2.isSome, ⟨fun d t => match Nat.beq d dp with
   | true => lookZ kb bv t
   | false => bx0 d t, dp, lp⟩⟩
 | none => ⟨fun _ => none, fun _ => false, ⟨bx0, dp, lp⟩⟩
def headVal (dp : Nat) (tm : Nat → Option AV) (p : Nat × Option Nat) : Option AV := match p.2 with
 | some _ => match tm p.1 with
  | some a => some (keepOwn dp p.1 a)
  | none => none
 | none => match tm p.1 with
  | some a => some (demAll a)
  | none => none
def headAll (h : Hint) (id : Nat) (s : St) : Bool × List (Option AV) × List (Option Box) × Nat × List LoopRec := match h.loops id with
 | some (kt, kb) => match canonBox kb (canonTm kt s) with
  | ⟨tm, fr, ⟨bx, dp, lp⟩⟩ => (keptTm tm dp (kb.map (·.1)) kt && keptBx bx dp (kb.map (·.1)) kb, kt.map (headVal dp tm), kb.map (fun p => bx dp p.1), dp, lp)
 | none => (false, [], [], 0, [])
theorem lookZ_map {β γ : Type} (f : Nat × β → Option γ) : ∀ (kt : List (Nat × β)) (t : Nat), lookZ kt (kt.map f) t = look (kt.map fun p => (p.1, f p)) t
 | [], t => rfl
 | p :: kt, t => by
  simp only [List.map, lookZ, look]
  rw [lookZ_map f kt]
  cases Nat.beq t p.1 <;> rfl
theorem headAll_head' {h : Hint} {id : Nat} {s : St} {tv : List (Option AV)} {bv : List (Option Box)} {dp : Nat} {lp : List LoopRec} (e : headAll h id s = (true, tv, bv, dp, lp)) :
  ∃ bx0, headSt h id s = some (mkHead h id tv bv bx0 dp lp) ∧ (canonBox ((h.loops id).getD ([], [])).2 (canonTm ((h.loops id).getD ([], [])).1 s)).g.bx = bx0 := by
 unfold headAll at e
 cases hl : h.loops id with
 | none => rw [hl] at e; cases e
 | some p =>
  obtain ⟨kt, kb⟩ := p
  rw [hl] at e
  dsimp only at e
  obtain ⟨tm, fr, ⟨bx, dp', lp'⟩, hs⟩ : ∃ tm fr, ∃ g : G, canonBox kb (canonTm kt s) = ⟨tm, fr, g⟩ := ⟨_, _, _, rfl⟩
  rw [hs] at e
  simp only [Prod.mk.injEq] at e
  obtain ⟨e1, rfl, rfl, rfl, rfl⟩ := e
  refine ⟨bx, ?_, ?_⟩
  ·unfold headSt mkHead
   rw [hl]
   dsimp only
   rw [hs]
   dsimp only
   rw [if_pos e1]
   congr 1
   congr 1
   ·funext t
    rw [lookZ_map]
    rfl
   ·congr 1
    funext d t
    cases hd : Nat.beq d dp' with
    | true => simp only [if_true]; rw [lookZ_map]
    | false => simp only [Bool.false_eq_true, if_false]
  ·show (canonBox kb (canonTm kt s)).g.bx = bx
   rw [hs]
theorem headAll_head {h : Hint} {id : Nat} {s : St} {tv : List (Option AV)} {bv : List (Option Box)} {dp : Nat} {lp : List LoopRec} (e : headAll h id s = (true, tv, bv, dp, lp)) :
  ∃ bx0, headSt h id s = some (mkHead h id tv bv bx0 dp lp) := by
 unfold headAll at e
 cases hl : h.loops id with
 | none => rw [hl] at e; cases e
 | some p =>
  obtain ⟨kt, kb⟩ := p
  rw [hl] at e
  dsimp only at e
  obtain ⟨tm, fr, ⟨bx, dp', lp'⟩, hs⟩ : ∃ tm fr, ∃ g : G, canonBox kb (canonTm kt s) = ⟨tm, fr, g⟩ := ⟨_, _, _, rfl⟩
  rw [hs] at e
  simp only [Prod.mk.injEq] at e
  obtain ⟨e1, rfl, rfl, rfl, rfl⟩ := e
  refine ⟨bx, ?_⟩
  unfold headSt mkHead
  rw [hl]
  dsimp only
  rw [hs]
  dsimp only
  rw [if_pos e1]
  congr 1
  congr 1
  ·funext t
   rw [lookZ_map]
   rfl
  ·congr 1
   funext d t
   cases hd : Nat.beq d dp' with
   | true => simp only [if_true]; rw [lookZ_map]
   | false => simp only [Bool.false_eq_true, if_false]
section
variable [Asks] {R : Type}
theorem Evx.loop {α : Type} (h : Hint) (id : Nat) (tv : α → List (Option AV)) (bv : α → List (Option Box)) (dp : Nat) (lp : List LoopRec) (μ : α → Nat) (r : α → R) {B : Nat → St → (Ex → St → Option R) → Option R} {K : Nat → Ex → St → Option R}
  (step : ∀ a (bx0 : Nat → Nat → Nat → Option Box) (L : Nat → St → Option R), (∀ a' (s'' : Nat → St), μ a' < μ a → (∀ i, headAll h id (s'' i) = (true, tv a', bv a', dp, lp)) → Evx (fun i => L i (s'' i)) (r a')) →
   Evx (fun i => B i (mkHead h id (tv a) (bv a) (bx0 i) dp lp) fun e s'' => match e with
    | .normal => L i s''
    | e => K i e s'') (r a))
  (a : α) {hh : Nat → Hint} {idd : Nat → Nat} {fu : Nat → Nat} {s : Nat → St} (e1 : ∀ i, hh i = h) (e2 : ∀ i, idd i = id) (e3 : ∀ i, fu i = i) (hs : ∀ i, headAll h id (s i) = (true, tv a, bv a, dp, lp)) : Evx (fun i => loopN (hh i) (idd i) (B i) (fu i) (s i) (K i)) (r a) := by
 have key : ∀ n a, μ a < n → ∀ c (s : Nat → St), (∀ i, headAll h id (s i) = (true, tv a, bv a, dp, lp)) → Evx (fun i => loopN h id (B i) (i - c) (s i) (K i)) (r a) := by
  intro n
  induction n with
  | zero => intro a ha; exact absurd ha (Nat.not_lt_zero _)
  | succ n ih =>
   intro a ha c s hs
   have hx : ∀ i, ∃ bx0, headSt h id (s i) = some (mkHead h id (tv a) (bv a) bx0 dp lp) := fun i => headAll_head (hs i)
   have hb := fun i => Classical.choose_spec (hx i)
   have h1 := step a (fun i => Classical.choose (hx i)) (fun i s'' => loopN h id (B i) (i - (c + 1)) s'' (K i)) (fun a' s'' hlt hs'' => ih a' (by omega) (c + 1) s'' hs'')
   obtain ⟨N, h1⟩ := h1
   refine ⟨N + c + 1, fun i hi => ?_⟩
   have h2 := h1 i (by omega)
   dsimp only at h2 ⊢
   rw [show i - c = (i - (c + 1)) + 1 by omega]
   rw [loopN, hb i]
   exact h2
 refine (key (μ a + 1) a (Nat.lt_succ_self _) 0 s hs).of_eq fun i => ?_
 rw [e1, e2, e3]
 rfl
end
theorem hold_true [Asks] {c : Bool} : hold c = true ↔ c = true := by rw [hold_eq]
theorem hold_false [Asks] {c : Bool} : hold c = false ↔ c = false := by rw [hold_eq]
theorem toList_loop (a : ByteArray) : ∀ i r, ByteArray.toList.loop a i r = r.reverse ++ a.data.toList.drop i := by
 intro i r
 induction h : a.size - i using Nat.strongRecOn generalizing i r with
 | _ n ih =>
  rw [ByteArray.toList.loop]
  split
  ·rename_i hlt
   rw [ih (a.size - (i + 1)) (by omega) (i + 1) _ rfl]
   have hs : i < a.data.toList.length := by simpa using hlt
   have : a.data.toList.drop i = a.get! i :: a.data.toList.drop (i + 1) := by
    rw [List.drop_eq_getElem_cons hs]
    congr 1
    have hs' : i < a.data.size := hlt
    simp only [ByteArray.get!, Array.getElem_toList]
    exact (getElem!_pos a.data i hs').symm
   rw [this]
   simp
  ·rename_i hge
   have : a.data.toList.drop i = [] := List.drop_eq_nil_of_le (by simpa using Nat.le_of_not_lt hge)
   simp [this]
theorem toList_eq (a : ByteArray) : a.toList = a.data.toList := by
 rw [ByteArray.toList, toList_loop]; simp
theorem seq_iff [Asks] {a b : ByteArray} : seq a b = true ↔ a = b := by
 rw [seq_eq, toList_eq, toList_eq]
 constructor
 ·intro h
  have h := eq_of_beq h
  cases a; cases b
  simpa using h
 ·rintro rfl; exact beq_self_eq_true _
theorem seq_ne [Asks] {a b : ByteArray} : seq a b = false ↔ a ≠ b := by
 rw [← Bool.not_eq_true, seq_iff]
end Go.Abs
namespace Go.Abs
open Go Asks
set_option linter.unusedVariables false
set_option linter.unusedSimpArgs false
set_option linter.unusedSectionVars false
def tabB : List ((Nat × Nat) × Box) → Nat → Nat → Option Box
 | [], _, _ => none
 | e :: r, d, t => match Nat.beq d e.1.1 && Nat.beq t e.1.2 with
  | true => some e.2
  | false => tabB r d t
def offB (ks : List (Nat × Nat)) (d t : Nat) : Prop := ∀ k ∈ ks, ¬ (d = k.1 ∧ t = k.2)
def BSup (f : Nat → Nat → Option Box) (ks : List (Nat × Nat)) : Prop := ∀ d t, offB ks d t → f d t = none
theorem offB.tail {k : Nat × Nat} {ks : List (Nat × Nat)} {d t : Nat} (h : offB (k :: ks) d t) : offB ks d t := fun x hx => h x (List.mem_cons_of_mem _ hx)
theorem offB.left {ks ls : List (Nat × Nat)} {d t : Nat} (h : offB (ks ++ ls) d t) : offB ks d t := fun x hx => h x (List.mem_append_left _ hx)
theorem offB.right {ks ls : List (Nat × Nat)} {d t : Nat} (h : offB (ks ++ ls) d t) : offB ls d t := fun x hx => h x (List.mem_append_right _ hx)
theorem BSup.tab : ∀ (l : List ((Nat × Nat) × Box)), BSup (tabB l) (l.map (·.1))
 | [], d, t, _ => rfl
 | e :: r, d, t, h => by
  simp only [tabB]
  cases hc : Nat.beq d e.1.1 && Nat.beq t e.1.2 with
  | true =>
   simp only [Bool.and_eq_true] at hc
   exact absurd ⟨Nat.eq_of_beq_eq_true hc.1, Nat.eq_of_beq_eq_true hc.2⟩ (h e.1 (by simp))
  | false => exact BSup.tab r d t h.tail
theorem BSup.g0 : BSup G0.bx [] := fun _ _ _ => rfl
theorem BSup.dem {f : Nat → Nat → Option Box} {ks : List (Nat × Nat)} {i : Id} (h : BSup f ks) : BSup (demBx i f) ks := fun d t ho => by
 unfold demBx; rw [h d t ho]
theorem BSup.set {f : Nat → Nat → Option Box} {ks : List (Nat × Nat)} {a b : Nat} {x : Option Box} (h : BSup f ks) : BSup (fun d t => if Nat.beq d a && Nat.beq t b then x else f d t) ((a, b) :: ks) := fun d t ho => by
 dsimp only
 rw [if_neg]
 ·exact h d t ho.tail
 ·intro hc
  simp only [Bool.and_eq_true] at hc
  exact ho (a, b) (by simp) ⟨Nat.eq_of_beq_eq_true hc.1, Nat.eq_of_beq_eq_true hc.2⟩
theorem BSup.pop {f : Nat → Nat → Option Box} {ks : List (Nat × Nat)} {a : Nat} (h : BSup f ks) : BSup (fun d t => if Nat.beq d a then none else f d t) ks := fun d t ho => by
 dsimp only
 split
 ·rfl
 ·exact h d t ho
theorem BSup.un {g g' : G} {ks ls : List (Nat × Nat)} (h : BSup g.bx ks) (h' : BSup g'.bx ls) : BSup (unG g g').bx (ks ++ ls) := fun d t ho => by
 show (if Nat.beq d g.dp then _ else _) = none
 split
 ·rw [h d t ho.left]
 ·exact h' d t ho.right
theorem BSup.hid {g : G} {ks : List (Nat × Nat)} (h : BSup g.bx ks) : BSup (hidG g).bx ks := BSup.pop h
theorem BSup.popG {g : G} {dp : Nat} {ks : List (Nat × Nat)} (h : BSup g.bx ks) : BSup (popG g dp).bx ks := BSup.pop h
theorem BSup.kG {g : G} {ks : List (Nat × Nat)} (h : BSup g.bx ks) : BSup (kG g).bx ks := fun d t ho => by
 show (match Nat.beq d g.dp with
  | true => none
  | false => mapBx (demFs (atD g.dp)) (g.bx d t)) = none
 rw [h d t ho]
 cases Nat.beq d g.dp <;> rfl
theorem BSup.kun {g g' : G} {ks ls : List (Nat × Nat)} (h : BSup g.bx ks) (h' : BSup g'.bx ls) : BSup (kunG g g').bx (ks ++ ls) := fun d t ho => by
 show (match Nat.beq d g.dp with
  | true => mapBx (demFs (offD g.dp)) (g.bx d t)
  | false => mapBx (demFs (atD g.dp)) (g'.bx d t)) = none
 rw [h d t ho.left, h' d t ho.right]
 cases Nat.beq d g.dp <;> rfl
theorem BSup.lz {β : Type} {kb : List (Nat × β)} {bv : List (Option Box)} {f : Nat → Nat → Option Box} {dp : Nat} {ks : List (Nat × Nat)} (hs : BSup f ks) : BSup (fun d t => match Nat.beq d dp with
  | true => lookZ kb bv t
  | false => f d t) (kb.map (fun q => (dp, q.1)) ++ ks) := fun d t ho => by
 dsimp only
 cases hd : Nat.beq d dp with
 | false => exact hs d t ho.right
 | true =>
  have hd := Nat.eq_of_beq_eq_true hd
  subst hd
  have ho := ho.left
  dsimp only
  have : ∀ (kb : List (Nat × β)) (bv : List (Option Box)), offB (kb.map fun q => (d, q.1)) d t → lookZ kb bv t = none := by
   intro kb
   induction kb with
   | nil => intro bv _; rfl
   | cons q kb ih =>
    intro bv ho
    cases bv with
    | nil => rfl
    | cons v bv =>
     simp only [lookZ]
     cases hq : Nat.beq t q.1 with
     | true => exact absurd ⟨rfl, Nat.eq_of_beq_eq_true hq⟩ (ho (d, q.1) (by simp))
     | false => exact ih bv ho.tail
  exact this kb bv ho
theorem tab_eq {f : Nat → Nat → Option Box} {ks : List (Nat × Nat)} {l : List ((Nat × Nat) × Box)} (hs : BSup f ks) (h : (ks ++ l.map (·.1)).map (fun k => f k.1 k.2) = (ks ++ l.map (·.1)).map (fun k => tabB l k.1 k.2)) : f = tabB l := by
 funext d t
 by_cases hin : ∃ k ∈ ks ++ l.map (·.1), d = k.1 ∧ t = k.2
 ·obtain ⟨k, hk, rfl, rfl⟩ := hin
  have := List.map_inj_left.1 h k hk
  exact this
 ·have ho : offB (ks ++ l.map (·.1)) d t := fun k hk e => hin ⟨k, hk, e⟩
  rw [hs d t ho.left, BSup.tab l d t ho.right]
inductive BS : (Nat → Nat → Option Box) → List (Nat × Nat) → Prop where
 | tab (l : List ((Nat × Nat) × Box)) : BS (tabB l) (l.map (·.1))
 | g0 : BS G0.bx []
 | dem {f : Nat → Nat → Option Box} {ks : List (Nat × Nat)} {i : Id} (h : BS f ks) : BS (demBx i f) ks
 | set {f : Nat → Nat → Option Box} {ks : List (Nat × Nat)} {a b : Nat} {x : Option Box} (h : BS f ks) : BS (fun d t => if Nat.beq d a && Nat.beq t b then x else f d t) ((a, b) :: ks)
 | pop {f : Nat → Nat → Option Box} {ks : List (Nat × Nat)} {a : Nat} (h : BS f ks) : BS (fun d t => if Nat.beq d a then none else f d t) ks
 | hid {g : G} {ks : List (Nat × Nat)} (h : BS g.bx ks) : BS (hidG g).bx ks
 | popG {g : G} {dp : Nat} {ks : List (Nat × Nat)} (h : BS g.bx ks) : BS (popG g dp).bx ks
 | un {g g' : G} {ks ls : List (Nat × Nat)} (h : BS g.bx ks) (h' : BS g'.bx ls) : BS (unG g g').bx (ks ++ ls)
 | kG {g : G} {ks : List (Nat × Nat)} (h : BS g.bx ks) : BS (kG g).bx ks
 | kun {g g' : G} {ks ls : List (Nat × Nat)} (h : BS g.bx ks) (h' : BS g'.bx ls) : BS (kunG g g').bx (ks ++ ls)
 | lz {β : Type} {kb : List (Nat × β)} {bv : List (Option Box)} {f : Nat → Nat → Option Box} {dp : Nat} {ks : List (Nat × Nat)} (h : BS f ks) : BS (fun d t => match Nat.beq d dp with
  | true => lookZ kb bv t
  | false => f d t) (kb.map (fun q => (dp, q.1)) ++ ks)
theorem BS.sup {f : Nat → Nat → Option Box} {ks : List (Nat × Nat)} (h : BS f ks) : BSup f ks := by
 induction h with
 | tab l => exact BSup.tab l
 | g0 => exact BSup.g0
 | dem _ ih => exact ih.dem
 | set _ ih => exact ih.set
 | pop _ ih => exact ih.pop
 | hid _ ih => exact ih.hid
 | popG _ ih => exact ih.popG
 | un _ _ ih ih' => exact ih.un ih'
 | kG _ ih => exact ih.kG
 | kun _ _ ih ih' => exact ih.kun ih'
 | lz _ ih => exact ih.lz
theorem tabC {f : Nat → Nat → Option Box} {ks : List (Nat × Nat)} {l : List ((Nat × Nat) × Box)} (c : BS f ks := by repeat constructor) (h : (ks ++ l.map (·.1)).map (fun k => f k.1 k.2) = (ks ++ l.map (·.1)).map (fun k => tabB l k.1 k.2) := by kernel_rfl) : f = tabB l := tab_eq c.sup h
section
variable [Asks] {R : Type} {q : Nat → Pr}
theorem Evx.congrC [Same R] {c : Nat} {cal : Cal} {args : Nat → List AV} {args' : List AV} {g : Nat → G} {g' : G} {k : Nat → Out → G → Option R} {r : R} (ea : ∀ i, args i = args') (e : ∀ i, g i = g') (h : Evx (fun i => runQ (q i) (i - c) R cal args' g' (k i)) r) : Evx (fun i => runQ (q i) (i - c) R cal (args i) (g i) (k i)) r :=
 h.of_eq fun i => by rw [ea, e]
theorem Evx.tidyK {cx : Nat → Cx R} {φ : Nat → AV → AV} {dst : Nat → Option Nat} {tm : Nat → Nat → Option AV} {fr : Nat → Nat → Bool} {bx : Nat → Nat → Nat → Option Box} {dp : Nat → Nat} {lp : Nat → List LoopRec} {k : Nat → Ex → St → Option R} {rs : List AV} {g' G2 : G} {r : R} (e : ∀ i, kunG ⟨bx i, dp i, lp i⟩ g' = G2) (h : Evx (fun i => resQ (cx i).nt (dst i) rs ⟨mapTm (φ i) (tm i), fr i, G2⟩ fun s' => k i .normal s') r) :
  Evx (fun i => behindF (cx i) (φ i) (dst i) ⟨tm i, fr i, ⟨bx i, dp i, lp i⟩⟩ (k i) (.ret rs) (kunG ⟨bx i, dp i, lp i⟩ g')) r := h.of_eq fun i => by
 rw [e i, resQ_eq]
 unfold behindF
 dsimp only
 cases putRes (cx i).nt (dst i) rs { tm := mapTm (φ i) (tm i), fr := fr i, g := G2 } <;> rfl
theorem Evx.congrK {K : Nat → Out → G → Option R} {o : Out} {g : Nat → G} {g' : G} {r : R} (e : ∀ i, g i = g') (h : Evx (fun i => K i o g') r) : Evx (fun i => K i o (g i)) r :=
 h.of_eq fun i => by rw [e]
theorem G_eq {g : G} {bx : Nat → Nat → Option Box} {dp : Nat} {lp : List LoopRec} (h1 : g.bx = bx) (h2 : g.dp = dp) (h3 : g.lp = lp) : g = ⟨bx, dp, lp⟩ := by
 cases g; cases h1; cases h2; cases h3; rfl
theorem Evx.cq [Same R] (args' : List AV) (l : List ((Nat × Nat) × Box)) (dp : Nat) {c : Nat} {cal : Cal} {args : Nat → List AV} {g : Nat → G} {k : Nat → Out → G → Option R} {r : R} (h : Evx (fun i => runQ (q i) (i - c) R cal args' ⟨tabB l, dp, []⟩ (k i)) r) (ea : ∀ i, args i = args' := by exact fun _ => by kernel_rfl) (eg : ∀ i, g i = ⟨tabB l, dp, []⟩ := by exact fun _ => G_eq tabC rfl rfl) : Evx (fun i => runQ (q i) (i - c) R cal (args i) (g i) (k i)) r := Evx.congrC ea eg h
theorem Evx.fq {K : Nat → Out → G → Option Out} {o : Out} {g : Nat → G} {l : List ((Nat × Nat) × Box)} {dp : Nat} {lp : List LoopRec} {r : Out} (h : Evx (fun i => K i o ⟨tabB l, dp, lp⟩) r) (eg : ∀ i, g i = ⟨tabB l, dp, lp⟩ := by exact fun _ => G_eq tabC rfl rfl) : Evx (fun i => K i o (g i)) r := Evx.congrK eg h
theorem Evx.tk (l : List ((Nat × Nat) × Box)) (d : Nat) {cx : Nat → Cx R} {φ : Nat → AV → AV} {dst : Nat → Option Nat} {tm : Nat → Nat → Option AV} {fr : Nat → Nat → Bool} {bx : Nat → Nat → Nat → Option Box} {dp : Nat → Nat} {lp : Nat → List LoopRec} {k : Nat → Ex → St → Option R} {rs : List AV} {g' : G} {r : R} (h : Evx (fun i => resQ (cx i).nt (dst i) rs ⟨mapTm (φ i) (tm i), fr i, ⟨tabB l, d, []⟩⟩ fun s' => k i .normal s') r) (e : ∀ i, kunG ⟨bx i, dp i, lp i⟩ g' = ⟨tabB l, d, []⟩ := by exact fun _ => G_eq tabC rfl rfl) :
  Evx (fun i => behindF (cx i) (φ i) (dst i) ⟨tm i, fr i, ⟨bx i, dp i, lp i⟩⟩ (k i) (.ret rs) (kunG ⟨bx i, dp i, lp i⟩ g')) r := Evx.tidyK e h
def demBoxq (a : AV) : AV := match a with
 | .own i sz es => (match i with
  | .box _ _ _ => .d (.sl sz es)
  | i => .own i sz es)
 | .raw o k i sz es => (match i with
  | .box _ _ _ => .old o sz es.length
  | i => .raw o k i sz es)
 | .tup xs => .tup (demBoxess xs)
 | a => a
theorem demBoxq_eq : demBoxes = demBoxq := by
 funext a
 cases a with
 | own i sz es => cases i <;> simp only [demBoxes, demBoxq]
 | raw o k i sz es => cases i <;> simp only [demBoxes, demBoxq]
 | _ => simp only [demBoxes, demBoxq]
theorem Evx.tu (l : List ((Nat × Nat) × Box)) (d : Nat) {cx : Nat → Cx R} {dst : Nat → Option Nat} {tm : Nat → Nat → Option AV} {fr : Nat → Nat → Bool} {bx : Nat → Nat → Nat → Option Box} {dp : Nat → Nat} {lp : Nat → List LoopRec} {k : Nat → Ex → St → Option R} {rs : List AV} {g' : G} {r : R} (h : Evx (fun i => resQ (cx i).nt (dst i) rs ⟨mapTm demBoxq (tm i), fr i, ⟨tabB l, d, []⟩⟩ fun s' => k i .normal s') r) (e : ∀ i, unG ⟨bx i, dp i, lp i⟩ g' = ⟨tabB l, d, []⟩ := by exact fun _ => G_eq tabC rfl rfl) :
  Evx (fun i => behind (cx i) (dst i) ⟨tm i, fr i, ⟨bx i, dp i, lp i⟩⟩ (k i) (.ret rs) (unG ⟨bx i, dp i, lp i⟩ g')) r := h.of_eq fun i => by
 rw [e i, resQ_eq, ← demBoxq_eq]
 unfold behind
 dsimp only
 cases putRes (cx i).nt (dst i) rs { tm := mapTm demBoxes (tm i), fr := fr i, g := ⟨tabB l, d, []⟩ } <;> rfl
theorem Evx.loopB {α : Type} (h : Hint) (id : Nat) (tv : α → List (Option AV)) (bv : α → List (Option Box)) (ot : α → List ((Nat × Nat) × Box)) (dp : Nat) (lp : List LoopRec) (μ : α → Nat) (r : α → R) {B : Nat → St → (Ex → St → Option R) → Option R} {K : Nat → Ex → St → Option R}
  (step : ∀ a (L : Nat → St → Option R), (∀ a' (s'' : Nat → St), μ a' < μ a → (∀ i, headAll h id (s'' i) = (true, tv a', bv a', dp, lp)) →
     (∀ i, (fun d t => if Nat.beq d dp then none else (canonBox ((h.loops id).getD ([], [])).2 (canonTm ((h.loops id).getD ([], [])).1 (s'' i))).g.bx d t) = tabB (ot a')) → Evx (fun i => L i (s'' i)) (r a')) →
   Evx (fun i => B i (mkHead h id (tv a) (bv a) (tabB (ot a)) dp lp) fun e s'' => match e with
    | .normal => L i s''
    | e => K i e s'') (r a))
  (a : α) {hh : Nat → Hint} {idd : Nat → Nat} {fu : Nat → Nat} {s : Nat → St} (e1 : ∀ i, hh i = h) (e2 : ∀ i, idd i = id) (e3 : ∀ i, fu i = i) (hs : ∀ i, headAll h id (s i) = (true, tv a, bv a, dp, lp))
  (ho : ∀ i, (fun d t => if Nat.beq d dp then none else (canonBox ((h.loops id).getD ([], [])).2 (canonTm ((h.loops id).getD ([], [])).1 (s i))).g.bx d t) = tabB (ot a)) : Evx (fun i => loopN (hh i) (idd i) (B i) (fu i) (s i) (K i)) (r a) := by
 have key : ∀ n a, μ a < n → ∀ c (s : Nat → St), (∀ i, headAll h id (s i) = (true, tv a, bv a, dp, lp)) →
   (∀ i, (fun d t => if Nat.beq d dp then none else (canonBox ((h.loops id).getD ([], [])).2 (canonTm ((h.loops id).getD ([], [])).1 (s i))).g.bx d t) = tabB (ot a)) → Evx (fun i => loopN h id (B i) (i - c) (s i) (K i)) (r a) := by
  intro n
  induction n with
  | zero => intro a ha; exact absurd ha (Nat.not_lt_zero _)
  | succ n ih =>
   intro a ha c s hs ho
   have hb : ∀ i, headSt h id (s i) = some (mkHead h id (tv a) (bv a) (tabB (ot a)) dp lp) := by
    intro i
    obtain ⟨bx0, e, hbx⟩ := headAll_head' (hs i)
    rw [e]
    have := ho i
    rw [hbx] at this
    congr 1
    unfold mkHead
    cases hl : h.loops id with
    | none =>
     have := hs i
     unfold headAll at this
     rw [hl] at this
     cases this
    | some p =>
     dsimp only
     congr 2
     funext d t
     cases hd : Nat.beq d dp with
     | true => rfl
     | false =>
      have := congrFun (congrFun this d) t
      dsimp only at this ⊢
      rw [← this, hd]
      rfl
   have h1 := step a (fun i s'' => loopN h id (B i) (i - (c + 1)) s'' (K i)) (fun a' s'' hlt hs'' ho'' => ih a' (by omega) (c + 1) s'' hs'' ho'')
   obtain ⟨N, h1⟩ := h1
   refine ⟨N + c + 1, fun i hi => ?_⟩
   have h2 := h1 i (by omega)
   dsimp only at h2 ⊢
   rw [show i - c = (i - (c + 1)) + 1 by omega]
   rw [loopN, hb i]
   exact h2
 refine (key (μ a + 1) a (Nat.lt_succ_self _) 0 s hs ho).of_eq fun i => ?_
 rw [e1, e2, e3]
 rfl
end
end Go.Abs
