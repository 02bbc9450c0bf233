/- What the claim rests on, part 6. -/
import Derived.Test.YtehkgiofchmpaaaDoorQp5
import Derived.Test.YtehkgiofchmpaaaDoorRows
import Derived.WalkKit
import Derived.ProofKit
import Derived.OpenShut
import Derived.JoinedCond
import Derived.Carry
import Derived.Test.YtehkgiofchmpaaaDoorProg
import Derived.Lib.AppendIntMem
import Derived.Lib.ItoaNum
import Derived.KernelRfl
namespace Go.Abs
open Go
set_option linter.unusedVariables false
set_option linter.unusedSimpArgs false
structure Rf where
 kind : Int
 idx : Int
 nm : ByteArray
deriving DecidableEq
inductive Fm where
 | node (op : Int) (nm : ByteArray) («as» : List Rf) (fr to : Int) (ks : List Fm)
def Fm.op : Fm → Int | .node o _ _ _ _ _ => o
def Fm.nm : Fm → ByteArray | .node _ n _ _ _ _ => n
def Fm.as : Fm → List Rf | .node _ _ a _ _ _ => a
def Fm.fr : Fm → Int | .node _ _ _ f _ _ => f
def Fm.to : Fm → Int | .node _ _ _ _ t _ => t
def Fm.ks : Fm → List Fm | .node _ _ _ _ _ k => k
theorem Fm.eta (t : Fm) : t = .node t.op t.nm t.as t.fr t.to t.ks := by cases t; rfl
def Rf.cells (r : Rf) : List D := [.int .i64 r.kind, .int .i64 r.idx, .str r.nm]
def Rf.d (r : Rf) : D := .agg [.int .i64 r.kind, .int .i64 r.idx, .str r.nm]
def refs («as» : List Rf) : List (List D) := «as».map fun r => [.int .i64 r.kind, .int .i64 r.idx, .str r.nm]
mutual
 def Fm.cells : Fm → List D
  | .node o n a f t k => [.int .i64 o, .str n, .sl 3 (refs a), .int .i64 f, .int .i64 t, .sl 6 (fms k)]
 def fms : List Fm → List (List D)
  | [] => []
  | t :: ts => t.cells :: fms ts
end
def Fm.d (t : Fm) : D := .agg [.int .i64 t.op, .str t.nm, .sl 3 (refs t.as), .int .i64 t.fr, .int .i64 t.to, .sl 6 (fms t.ks)]
theorem Fm.cells_eq (t : Fm) : t.cells = [.int .i64 t.op, .str t.nm, .sl 3 (refs t.as), .int .i64 t.fr, .int .i64 t.to, .sl 6 (fms t.ks)] := by
 cases t; simp only [Fm.cells, Fm.op, Fm.nm, Fm.as, Fm.fr, Fm.to, Fm.ks]
theorem fms_map : ∀ ts : List Fm, fms ts = ts.map Fm.cells
 | [] => by simp [fms]
 | t :: ts => by simp only [fms, List.map]; rw [fms_map ts]
theorem fms_len (ts : List Fm) : (fms ts).length = ts.length := by rw [fms_map]; simp
theorem refs_len («as» : List Rf) : (refs «as»).length = «as».length := by simp [refs]
theorem fms_app (ts us : List Fm) : fms (ts ++ us) = fms ts ++ fms us := by simp [fms_map]
theorem refs_app («as» bs : List Rf) : refs («as» ++ bs) = refs «as» ++ refs bs := by simp [refs]
theorem fms_get {ts : List Fm} {i : Nat} {t : Fm} (h : ts[i]? = some t) : (fms ts)[i]? = some [.int .i64 t.op, .str t.nm, .sl 3 (refs t.as), .int .i64 t.fr, .int .i64 t.to, .sl 6 (fms t.ks)] := by
 rw [fms_map, List.getElem?_map, h, ← t.cells_eq]; rfl
theorem refs_get {«as» : List Rf} {i : Nat} {r : Rf} (h : «as»[i]? = some r) : (refs «as»)[i]? = some [.int .i64 r.kind, .int .i64 r.idx, .str r.nm] := by
 rw [refs, List.getElem?_map, h]; rfl
def rbulks : List Rf → Nat
 | [] => 0
 | r :: rs => 1 + r.nm.size + rbulks rs
theorem rbulks_len : ∀ «as» : List Rf, «as».length ≤ rbulks «as»
 | [] => by simp [rbulks]
 | a :: «as» => by simp only [rbulks, List.length_cons]; have := rbulks_len «as»; omega
mutual
 def Fm.bulk : Fm → Nat
  | .node _ m a _ _ k => 1 + m.size + rbulks a + fbulks k
 def fbulks : List Fm → Nat
  | [] => 0
  | t :: ts => t.bulk + fbulks ts
 def Fm.size : Fm → Nat
  | .node _ _ _ _ _ k => 1 + fsizes k
 def fsizes : List Fm → Nat
  | [] => 0
  | t :: ts => t.size + fsizes ts
 def Fm.depth : Fm → Nat
  | .node _ _ _ _ _ k => fdepths k + 1
 def fdepths : List Fm → Nat
  | [] => 0
  | t :: ts => max t.depth (fdepths ts)
end
theorem Fm.bulk_eq (t : Fm) : t.bulk = 1 + t.nm.size + rbulks t.as + fbulks t.ks := by cases t; simp only [Fm.bulk, Fm.nm, Fm.as, Fm.ks]
theorem Fm.size_eq (t : Fm) : t.size = 1 + fsizes t.ks := by cases t; simp only [Fm.size, Fm.ks]
theorem Fm.depth_eq (t : Fm) : t.depth = fdepths t.ks + 1 := by cases t; simp only [Fm.depth, Fm.ks]
theorem Fm.bulk_pos (t : Fm) : 1 ≤ t.bulk := by rw [t.bulk_eq]; omega
mutual
 theorem fsize_bulk : ∀ t : Fm, t.size ≤ t.bulk
  | .node _ _ «as» _ _ ks => by simp only [Fm.size, Fm.bulk]; have := fsizes_bulks ks; omega
 theorem fsizes_bulks : ∀ ts : List Fm, fsizes ts ≤ fbulks ts
  | [] => by simp [fsizes, fbulks]
  | t :: ts => by simp only [fsizes, fbulks]; have := fsize_bulk t; have := fsizes_bulks ts; omega
end
theorem fbulk_mem : ∀ {ts : List Fm} {t : Fm}, t ∈ ts → t.bulk ≤ fbulks ts
 | u :: ts, t, h => by
  simp only [fbulks]
  rcases List.mem_cons.1 h with rfl | h
  ·omega
  ·have := fbulk_mem h; omega
theorem fsizes_app : ∀ (ts us : List Fm), fsizes (ts ++ us) = fsizes ts + fsizes us
 | [], us => by simp [fsizes]
 | t :: ts, us => by simp only [List.cons_append, fsizes]; rw [fsizes_app ts us]; omega
theorem fdepths_app : ∀ (ts us : List Fm), fdepths (ts ++ us) = max (fdepths ts) (fdepths us)
 | [], us => by simp [fdepths]
 | t :: ts, us => by simp only [List.cons_append, fdepths]; rw [fdepths_app ts us]; omega
def rwide : List Rf → Nat
 | [] => 0
 | r :: rs => max r.nm.size (rwide rs)
mutual
 def Fm.cnt : Fm → Nat
  | .node _ _ a _ _ k => 1 + a.length + cnts k
 def cnts : List Fm → Nat
  | [] => 0
  | t :: ts => t.cnt + cnts ts
 def Fm.wide : Fm → Nat
  | .node _ m a _ _ k => max m.size (max (rwide a) (wides k))
 def wides : List Fm → Nat
  | [] => 0
  | t :: ts => max t.wide (wides ts)
end
theorem Fm.cnt_eq (t : Fm) : t.cnt = 1 + t.as.length + cnts t.ks := by cases t; simp only [Fm.cnt, Fm.as, Fm.ks]
theorem Fm.wide_eq (t : Fm) : t.wide = max t.nm.size (max (rwide t.as) (wides t.ks)) := by cases t; simp only [Fm.wide, Fm.nm, Fm.as, Fm.ks]
theorem cnts_len : ∀ ts : List Fm, ts.length ≤ cnts ts
 | [] => by simp [cnts]
 | t :: ts => by simp only [cnts, List.length_cons]; have := cnts_len ts; have := t.cnt_eq; omega
theorem cnt_mem : ∀ {ts : List Fm} {t : Fm}, t ∈ ts → t.cnt ≤ cnts ts
 | u :: ts, t, h => by
  simp only [cnts]
  rcases List.mem_cons.1 h with rfl | h
  ·omega
  ·have := cnt_mem h; omega
theorem wide_mem : ∀ {ts : List Fm} {t : Fm}, t ∈ ts → t.wide ≤ wides ts
 | u :: ts, t, h => by
  simp only [wides]
  rcases List.mem_cons.1 h with rfl | h
  ·omega
  ·have := wide_mem h; omega
theorem rwide_bulk : ∀ «as» : List Rf, rwide «as» ≤ rbulks «as»
 | [] => by simp [rwide]
 | a :: «as» => by simp only [rwide, rbulks]; have := rwide_bulk «as»; omega
mutual
 theorem cnt_bulk : ∀ t : Fm, t.cnt ≤ t.bulk
  | .node o m a f t k => by simp only [Fm.cnt, Fm.bulk]; have := cnts_bulks k; have := rbulks_len a; omega
 theorem cnts_bulks : ∀ ts : List Fm, cnts ts ≤ fbulks ts
  | [] => by simp [cnts, fbulks]
  | t :: ts => by simp only [cnts, fbulks]; have := cnt_bulk t; have := cnts_bulks ts; omega
 theorem wide_bulk : ∀ t : Fm, t.wide ≤ t.bulk
  | .node o m a f t k => by simp only [Fm.wide, Fm.bulk]; have := wides_bulks k; have := rwide_bulk a; omega
 theorem wides_bulks : ∀ ts : List Fm, wides ts ≤ fbulks ts
  | [] => by simp [wides, fbulks]
  | t :: ts => by simp only [wides, fbulks]; have := wide_bulk t; have := wides_bulks ts; omega
 theorem size_cnt : ∀ t : Fm, t.size ≤ t.cnt
  | .node o m a f t k => by simp only [Fm.size, Fm.cnt]; have := sizes_cnts k; omega
 theorem sizes_cnts : ∀ ts : List Fm, fsizes ts ≤ cnts ts
  | [] => by simp [fsizes, cnts]
  | t :: ts => by simp only [fsizes, cnts]; have := size_cnt t; have := sizes_cnts ts; omega
 theorem depth_cnt : ∀ t : Fm, t.depth ≤ t.cnt
  | .node o m a f t k => by simp only [Fm.depth, Fm.cnt]; have := depths_cnts k; omega
 theorem depths_cnts : ∀ ts : List Fm, fdepths ts ≤ cnts ts
  | [] => by simp [fdepths, cnts]
  | t :: ts => by simp only [fdepths, cnts]; have := depth_cnt t; have := depths_cnts ts; omega
end
def Fm.ok (t : Fm) : Prop := t.cnt < 2 ^ 30 ∧ t.wide < 2 ^ 30
theorem Fm.ok_of {t : Fm} (h : t.bulk < 2 ^ 30) : t.ok := by have := cnt_bulk t; have := wide_bulk t; exact ⟨by omega, by omega⟩
theorem Fm.ok.nm {t : Fm} (h : t.ok) : t.nm.size < 2 ^ 30 := by have := h.2; rw [t.wide_eq] at this; omega
theorem Fm.ok.as {t : Fm} (h : t.ok) : t.as.length < 2 ^ 30 := by have := h.1; rw [t.cnt_eq] at this; omega
theorem Fm.ok.ks {t : Fm} (h : t.ok) : t.ks.length < 2 ^ 30 := by have := h.1; rw [t.cnt_eq] at this; have := cnts_len t.ks; omega
theorem Fm.ok.kid {t u : Fm} {i : Nat} (h : t.ok) (hk : t.ks[i]? = some u) : u.ok := by
 have h1 := h.1
 have h2 := h.2
 rw [t.cnt_eq] at h1
 rw [t.wide_eq] at h2
 have := cnt_mem (List.mem_of_getElem? hk)
 have := wide_mem (List.mem_of_getElem? hk)
 exact ⟨by omega, by omega⟩
theorem Fm.kid_lt {t u : Fm} {i : Nat} (hk : t.ks[i]? = some u) : u.bulk < t.bulk := by
 rw [t.bulk_eq]; have := fbulk_mem (List.mem_of_getElem? hk); omega
theorem Fm.rec' {P : Fm → Prop} (h : ∀ t : Fm, (∀ (i : Nat) (u : Fm), t.ks[i]? = some u → P u) → P t) (t : Fm) : P t := by
 have : ∀ n (t : Fm), t.bulk < n → P t := by
  intro n
  induction n with
  | zero => intro t ht; exact absurd ht (Nat.not_lt_zero _)
  | succ n ih => exact fun t ht => h t fun i u hu => ih u (by have := Fm.kid_lt hu; omega)
 exact this _ t (Nat.lt_succ_self _)
theorem wrap_small {n : Int} (h1 : -(2 ^ 62) ≤ n) (h2 : n < 2 ^ 62) : IntKind.i64.wrap n = n := by
 unfold IntKind.wrap
 simp only [IntKind.bits, IntKind.signed, Bool.true_and]
 split
 ·rename_i h
  have h := of_decide_eq_true h
  omega
 ·rename_i h
  have h := of_decide_eq_false (Bool.not_eq_true _ ▸ h)
  omega
theorem wrap_succ {n : Nat} (h : n < 2 ^ 40) : IntKind.i64.wrap ((n : Int) + 1) = ((n + 1 : Nat) : Int) := by
 rw [wrap_small] <;> omega
theorem drop_cons {α : Type} {l : List α} {i : Nat} {x : α} (h : l[i]? = some x) : l.drop i = x :: l.drop (i + 1) := by
 obtain ⟨hi, rfl⟩ := List.getElem?_eq_some_iff.1 h
 exact List.drop_eq_getElem_cons hi
theorem get_some {α : Type} {l : List α} {i : Nat} (h : i < l.length) : ∃ x, l[i]? = some x := ⟨_, List.getElem?_eq_getElem h⟩
theorem take_succ' {α : Type} {l : List α} {i : Nat} {x : α} (h : l[i]? = some x) : l.take (i + 1) = l.take i ++ [x] := by
 rw [List.take_add_one, h]; rfl
theorem fsizes_take {ts : List Fm} {i : Nat} {t : Fm} (h : ts[i]? = some t) : fsizes (ts.take (i + 1)) = fsizes (ts.take i) + t.size := by
 rw [take_succ' h, fsizes_app]; simp [fsizes]
theorem fsizes_take_le (ts : List Fm) (i : Nat) : fsizes (ts.take i) ≤ fsizes ts := by
 have := fsizes_app (ts.take i) (ts.drop i); rw [List.take_append_drop] at this; omega
theorem fdepths_take {ts : List Fm} {i : Nat} {t : Fm} (h : ts[i]? = some t) : fdepths (ts.take (i + 1)) = max (fdepths (ts.take i)) t.depth := by
 rw [take_succ' h, fdepths_app]; simp [fdepths]
theorem fdepths_take_le (ts : List Fm) (i : Nat) : fdepths (ts.take i) ≤ fdepths ts := by
 have := fdepths_app (ts.take i) (ts.drop i); rw [List.take_append_drop] at this; omega
theorem Fm.ok.sizes {t : Fm} (h : t.ok) : fsizes t.ks < 2 ^ 30 := by have := h.1; rw [t.cnt_eq] at this; have := sizes_cnts t.ks; omega
theorem Fm.ok.depths {t : Fm} (h : t.ok) : fdepths t.ks < 2 ^ 30 := by have := h.1; rw [t.cnt_eq] at this; have := depths_cnts t.ks; omega
def fmBox (t : Fm) : Box := ⟨[.d (.int .i64 t.op), .d (.str t.nm), .d (.sl 3 (refs t.as)), .d (.int .i64 t.fr), .d (.int .i64 t.to), .d (.sl 6 (fms t.ks))], false, (0, 0)⟩
theorem bget (s : ByteArray) (m : Nat) : s[m]? = s.data.toList[m]? := by
 by_cases h : m < s.size
 ·rw [getElem?_pos s m h, List.getElem?_eq_getElem (by simpa using h)]
  rfl
 ·rw [getElem?_neg s m h, List.getElem?_eq_none (by simpa using Nat.le_of_not_lt h)]
theorem bsize (s : ByteArray) : s.size = s.data.toList.length := Array.length_toList.symm
def lowerB (c : UInt8) : Bool := decide (97 ≤ (c.toNat : Int)) && decide ((c.toNat : Int) ≤ 122)
def tailB (c : UInt8) : Bool := lowerB c || (decide (48 ≤ (c.toNat : Int)) && decide ((c.toNat : Int) ≤ 57)) || decide ((c.toNat : Int) = 45)
def symL : List UInt8 → Bool
 | [] => false
 | c :: cs => lowerB c && cs.all tailB
def headB : List UInt8 → Bool
 | [] => false
 | c :: _ => lowerB c
def symB (s : ByteArray) : Bool := symL s.data.toList
theorem lower_tail {c : UInt8} (h : lowerB c = true) : tailB c = true := by unfold tailB; rw [h]; rfl
def emp (s : ByteArray) : Bool := decide (s = ⟨#[]⟩)
def refOk (r : Rf) (n : Int) : Bool :=
 if r.kind = 1 then emp r.nm && decide (0 ≤ r.idx) && decide (r.idx < n)
 else if r.kind = 2 then decide (r.idx = 0) && symB r.nm
 else if r.kind = 3 then emp r.nm && decide (0 ≤ r.idx) && decide (r.idx ≤ 1439999999)
 else if r.kind = 4 then emp r.nm && decide (0 ≤ r.idx) && decide (r.idx ≤ 1099511627776)
 else false
def momentB (n : Int) : Bool := decide (-1 ≤ n) && decide (n ≤ 1439999999)
def bindsB (op : Int) : Bool := decide (op = 8) || decide (op = 9)
def fieldsOk (t : Fm) (n : Int) : Bool :=
  !(decide (t.op ≠ 10) && (decide (t.fr ≠ 0) || decide (t.to ≠ 0))) && !(decide (t.op ≠ 3) && decide (0 < t.as.length)) && !(decide (t.op ≠ 3) && !bindsB t.op && !emp t.nm) &&
  (if t.op = 1 ∨ t.op = 2 then decide (t.ks.length = 0)
   else if t.op = 3 then t.as.all (refOk · n) && decide (t.ks.length = 0) && decide (1 ≤ t.as.length) && decide (t.as.length ≤ 3) && symB t.nm
   else if t.op = 4 ∨ t.op = 11 ∨ t.op = 12 then decide (t.ks.length = 1)
   else if t.op = 5 ∨ t.op = 6 then true
   else if t.op = 7 then decide (t.ks.length = 2)
   else if t.op = 8 ∨ t.op = 9 then decide (t.ks.length = 1) && symB t.nm
   else if t.op = 10 then decide (t.ks.length = 1) && momentB t.fr && momentB t.to
   else false)
def under (t : Fm) (n : Int) : Int := if bindsB t.op then n + 1 else n
mutual
 def Fm.formed : Fm → Int → Bool
  | .node o m a f t k, n => fieldsOk (.node o m a f t k) n && formeds k (if bindsB o then n + 1 else n)
 def formeds : List Fm → Int → Bool
  | [], _ => true
  | t :: ts, n => t.formed n && formeds ts n
end
theorem Fm.formed_eq (t : Fm) (n : Int) : t.formed n = (fieldsOk t n && formeds t.ks (under t n)) := by
 cases t
 unfold Fm.formed under
 rfl
end Go.Abs
namespace Go.Proofs.YtehkgiofchmpaaaDoor
open Go Go.Abs Go.Abs.Asks Go.ChangeShapes Go.WideShapes Go.ChangeAt Go.RowKit
set_option linter.unusedVariables false
set_option linter.unusedSimpArgs false
section
variable {H : Type} {enc : TypeId × Value → H} {P : Program} {w : World}
def RdC (w : World) (xs : List D) (cs : List Value) : Prop := RepVs w (LW w) xs cs ∧ ∀ u ∈ cs, u.oneCell' = true
theorem rd_string {t : TypeId} {fuel : Nat} {cs : List Value} {x : DataW H × List MemPlace} (ht : P.underlying t = some .string) (h : DataW.trod enc P w 0 (fun _ => true) true fuel t cs = some x) :
  ∃ s : ByteArray, RdC w [.str s] cs ∧ s.size + 1 ≤ Rows.uptoBulk x.1 := by
 obtain ⟨s, rfl, rfl, hs⟩ := DataW.trod_string ht h
 refine ⟨s, ⟨by simp only [RepVs, RepV]; exact ⟨_, _, rfl, rfl, rfl⟩, ?_⟩, by simp only [Rows.uptoBulk]; exact Nat.le_refl _⟩
 intro u hu; simp at hu; subst hu; rfl
theorem RdC.append {xs ys : List D} {cs ds : List Value} (h : RdC w xs cs) (k : RdC w ys ds) : RdC w (xs ++ ys) (cs ++ ds) :=
 ⟨h.1.append k.1, fun u hu => (List.mem_append.1 hu).elim (h.2 u) (k.2 u)⟩
theorem RdC.one {x : D} {v : Value} (h : RdC w [x] v.cells.toList) (hv : ∀ cs, v ≠ .agg cs) : RepV w (LW w) x v := by
 obtain ⟨h, _⟩ := h
 have : v.cells = #[v] := by cases v <;> first | rfl | exact absurd rfl (hv _)
 rw [this] at h
 simp only [RepVs] at h
 obtain ⟨u, us, hu, h1, _⟩ := h
 simp at hu
 rw [hu.1]; exact h1
theorem RdC.agg {xs : List D} {cv : Array Value} (h : RdC w xs cv.toList) : RepV w (LW w) (.agg xs) (.agg cv) := by
 simp only [RepV]
 exact ⟨cv, rfl, h.1, h.2⟩
end
set_option maxRecDepth 100000 in
theorem arg_string {H : Type} {enc : TypeId × Value → H} {w : World} {v : Value} {d : DataW H} {ps : List MemPlace} {base : Nat} (hval : Value.okWide Tryd.prog w .any base 9 v) (h : DataW.Trod enc Tryd.prog w 0 (fun _ => true) true 9 v d ps) :
  ∃ s : ByteArray, RepV w (LW w) (.str s) v ∧ s.size + 1 ≤ Rows.uptoBulk d := by
 obtain ⟨fuel, hf⟩ := h
 obtain ⟨s, r, b⟩ := rd_string Tryd.underlying9 hf
 obtain ⟨s', rfl⟩ := okWide_string Tryd.underlying9 hval
 exact ⟨s, r.one (fun cs e => by cases e), b⟩
theorem trodAll_stays {H : Type} {enc : TypeId × Value → H} {P : Program} (hl : laidOutB P = true) {W W' : World} (hb : Below W.heap.size W W') {sp : Nat → Bool} :
  ∀ (ts : List TypeId) (vs : List Value) (ds : List (DataW H)) (ps : List MemPlace), (∀ t ∈ ts, P.readableRec t = true ∧ t < P.types.size) → DataW.TrodAll enc P W 0 (fun _ => true) true ts vs ds ps →
   (∀ p ∈ ps, p.block < W.heap.size) → (∀ p ∈ ps, sp p.block = true) → DataW.TrodAll enc P W' 0 sp true ts vs ds ps
 | [], [], [], ps, _, h, _, _ => h
 | t :: ts, v :: vs, d :: ds, ps, hr, h, hlt, hs => by
  obtain ⟨p, q, h1, h2, rfl⟩ := h
  have hr0 := hr t (List.mem_cons_self ..)
  exact ⟨p, q, WideElems.Trod_stays hl hr0.1 hr0.2 h1 (fun x hx => hb.same (hlt x (List.mem_append_left _ hx))) (fun x hx => hs x (List.mem_append_left _ hx)),
   trodAll_stays hl hb ts vs ds q (fun t ht => hr t (List.mem_cons_of_mem _ ht)) h2 (fun x hx => hlt x (List.mem_append_right _ hx)) (fun x hx => hs x (List.mem_append_right _ hx)), rfl⟩
 | [], _ :: _, _, _, _, h, _, _ => h.elim
 | [], [], _ :: _, _, _, h, _, _ => h.elim
 | _ :: _, [], _, _, _, h, _, _ => h.elim
 | _ :: _, _ :: _, [], _, _, h, _, _ => h.elim
theorem post_true {H : Type} {enc : TypeId × Value → H} {P : Program} (hl : laidOutB P = true) {f : Func} {s : ChangeSpec} {fresh handsOn again : Bool} {W W' : World} {args : Array Value} {ds : List (DataW H)} {before : List MemPlace} {tb : TypeId}
  (hb : P.underlying tb = some .bool) (hres : f.resultTypes = #[tb]) (hvars : s.vars = []) (hread : ∀ t ∈ f.params.toList, P.readableRec t = true ∧ t < P.types.size)
  (hs1 : (s.fn H (ds ++ [])).results = [.lit (.bool true)]) (hs2 : (s.fn H (ds ++ [])).args = ds) (hs3 : (s.fn H (ds ++ [])).vars = [])
  (hW : DataW.Whole enc P f.params.toList s.vars false W args.toList ds [] before) (hbelow : Below W.heap.size W W') :
  s.post enc P f false fresh handsOn again W args (.bool true) W' := by
 have hlt := hW.lt
 have hold : ∀ p ∈ before, (fun b => decide (b < W.heap.size)) p.block = true := fun p hp => by simpa using hlt p hp
 have hW' := hW
 obtain ⟨p, q, hA, hV, rfl, hz, _⟩ := hW
 rw [hvars] at hV
 obtain ⟨_, rfl⟩ := trodVars_none hV
 simp only [List.append_nil] at hlt hold hz hW'
 have hargs : ∀ sp : Nat → Bool, (∀ x ∈ p, sp x.block = true) → DataW.TrodAll enc P W' 0 sp true f.params.toList args.toList (s.fn H (ds ++ [])).args p := fun sp hsp => by
  rw [hs2]
  exact trodAll_stays hl hbelow _ _ _ _ hread hA hlt hsp
 have hresR : ∀ (b : Nat) (sp : Nat → Bool) (hd : Bool), DataW.TrodAll enc P W' b sp hd f.resultTypes.toList ((Value.bool true).resultList f.resultTypes.size) (s.fn H (ds ++ [])).results [] := by
  intro b sp hd
  rw [hres, hs1]
  exact trodAll_cons_mk (shut_bool hb _) trodAll_mk0
 have hvarsR : ∀ sp : Nat → Bool, DataW.TrodVars enc P W' sp s.vars (s.fn H (ds ++ [])).vars [] := by
  intro sp
  rw [hs3, hvars]
  rfl
 refine ⟨ds, [], p, [], p, [], hW', hresR _ _ _, hargs _ hold, hvarsR _, World.keptBut_mono (fun x hx => ⟨hx, .inr ?_⟩) (hbelow.frame (· ∈ p)), fun _ => ?_⟩
 ·simpa using hx
 ·refine ⟨ok_one hres rfl (okWide_bool_mk hb _), _, _, ([] ++ p) ++ [], ⟨[] ++ p, [], trodAll_append (hargs _ (fun _ _ => rfl)) (hresR _ _ _), hvarsR _, rfl, ?_, fun h => by cases h⟩, ?_⟩
  ·intro b off hp
   have hp : MemPlace.cell b off ∈ p := by simpa using hp
   rw [hbelow.frozen (hlt _ hp)]
   exact hz b off hp
  ·intro x hx _
   simpa using hx
section
variable {H : Type} {enc : TypeId × Value → H} {P : Program} {w : World}
end
end Go.Proofs.YtehkgiofchmpaaaDoor
namespace Go.Proofs.YtehkgiofchmpaaaDoor
open Go Go.Abs
set_option linter.unusedVariables false
def ty1 : TI := { size := 1, agg := false, bytes := 8, zero := [.nilf], fields := [], elem := 0, kind := 9 }
def ty2 : TI := { size := 1, agg := false, bytes := 8, zero := [.int .i64 0], fields := [], elem := 0, kind := 4, int := some .i64 }
def ty3 : TI := { size := 1, agg := false, bytes := 8, zero := [.int .i64 0], fields := [], elem := 0, kind := 4, int := some .i64 }
def ty4 : TI := { size := 1, agg := false, bytes := 1, zero := [.bool false], fields := [], elem := 0, kind := 5 }
def ty5 : TI := { size := 1, agg := false, bytes := 1, zero := [.int .u8 0], fields := [], elem := 0, kind := 4, int := some .u8 }
def ty6 : TI := { size := 1, agg := false, bytes := 1, zero := [.int .u8 0], fields := [], elem := 0, kind := 4, int := some .u8 }
def ty9 : TI := { size := 1, agg := false, bytes := 16, zero := [.str (ByteArray.mk #[])], fields := [], elem := 0, kind := 3 }
def ty12 : TI := { size := 1, agg := false, bytes := 8, zero := [.int .u64 0], fields := [], elem := 0, kind := 4, int := some .u64 }
def ty20 : TI := { size := 1, agg := false, bytes := 16, zero := [.nili], fields := [], elem := 0, kind := 8 }
def ty22 : TI := { size := 1, agg := false, bytes := 24, zero := [.nils], fields := [], elem := 40, kind := 2 }
def ty23 : TI := { size := 1, agg := false, bytes := 24, zero := [.nils], fields := [], elem := 25, kind := 2 }
def ty25 : TI := { size := 6, agg := true, bytes := 88, zero := [.int .i64 0, .str (ByteArray.mk #[]), .nils, .int .i64 0, .int .i64 0, .nils], fields := [(0, 1), (1, 1), (2, 1), (3, 1), (4, 1), (5, 1)], elem := 0, kind := 1, sls := [0, 0, 3, 0, 0, 6] }
def ty28 : TI := { size := 1, agg := false, bytes := 8, zero := [.nilf], fields := [], elem := 0, kind := 9 }
def ty30 : TI := { size := 1, agg := false, bytes := 8, zero := [.int .i64 0], fields := [], elem := 0, kind := 4, int := some .i64 }
def ty40 : TI := { size := 3, agg := true, bytes := 32, zero := [.int .i64 0, .int .i64 0, .str (ByteArray.mk #[])], fields := [(0, 1), (1, 1), (2, 1)], elem := 0, kind := 1 }
def ty51 : TI := { size := 1, agg := false, bytes := 8, zero := [.nilf], fields := [], elem := 0, kind := 9 }
def ty53 : TI := { size := 1, agg := false, bytes := 8, zero := [.nilp], fields := [], elem := 56, kind := 7 }
def ty54 : TI := { size := 1, agg := false, bytes := 24, zero := [.nils], fields := [], elem := 5, kind := 2 }
def ty56 : TI := { size := 2, agg := true, bytes := 32, zero := [.nilp, .nils], fields := [(0, 1), (1, 1)], elem := 0, kind := 1, sls := [0, 1], mark := (56, 5) }
def ty60 : TI := { size := 1, agg := true, bytes := 8, zero := [.int .i64 0], fields := [(0, 1)], elem := 0, kind := 1 }
def ty62 : TI := { size := 1, agg := false, bytes := 8, zero := [.nilp], fields := [], elem := 64, kind := 7 }
def ty64 : TI := { size := 2, agg := true, bytes := 24, zero := [.str (ByteArray.mk #[]), .int .i64 0], fields := [(0, 1), (1, 1)], elem := 0, kind := 1 }
def ty67 : TI := { size := 1, agg := false, bytes := 8, zero := [.nilp], fields := [], elem := 69, kind := 7 }
def ty69 : TI := { size := 4, agg := true, bytes := 40, zero := [.str (ByteArray.mk #[]), .int .i64 0, .int .i64 0, .bool false], fields := [(0, 1), (1, 1), (2, 1), (3, 1)], elem := 0, kind := 1 }
def ty72 : TI := { size := 1, agg := false, bytes := 8, zero := [.nilf], fields := [], elem := 0, kind := 9 }
def ty79 : TI := { size := 1, agg := false, bytes := 8, zero := [.nilf], fields := [], elem := 0, kind := 9 }
def ty89 : TI := { size := 1, agg := false, bytes := 8, zero := [.nilp], fields := [], elem := 5, kind := 7 }
def ty95 : TI := { size := 1, agg := false, bytes := 24, zero := [.nils], fields := [], elem := 3, kind := 2 }
def ty98 : TI := { size := 1, agg := false, bytes := 24, zero := [.nils], fields := [], elem := 9, kind := 2 }
def ty100 : TI := { size := 1, agg := false, bytes := 8, zero := [.nilp], fields := [], elem := 0, kind := 0 }
def ty103 : TI := { size := 24, agg := true, bytes := 24, zero := [.int .u8 0, .int .u8 0, .int .u8 0, .int .u8 0, .int .u8 0, .int .u8 0, .int .u8 0, .int .u8 0, .int .u8 0, .int .u8 0, .int .u8 0, .int .u8 0, .int .u8 0, .int .u8 0, .int .u8 0, .int .u8 0, .int .u8 0, .int .u8 0, .int .u8 0, .int .u8 0, .int .u8 0, .int .u8 0, .int .u8 0, .int .u8 0], fields := [], elem := 5, kind := 6 }
def ty104 : TI := { size := 1, agg := false, bytes := 8, zero := [.int .u64 0], fields := [], elem := 0, kind := 4, int := some .u64 }
def ty110 : TI := { size := 20, agg := true, bytes := 160, zero := [.int .u64 0, .int .u64 0, .int .u64 0, .int .u64 0, .int .u64 0, .int .u64 0, .int .u64 0, .int .u64 0, .int .u64 0, .int .u64 0, .int .u64 0, .int .u64 0, .int .u64 0, .int .u64 0, .int .u64 0, .int .u64 0, .int .u64 0, .int .u64 0, .int .u64 0, .int .u64 0], fields := [], elem := 104, kind := 6 }
def ty111 : TI := { size := 1, agg := false, bytes := 4, zero := [.int .u32 0], fields := [], elem := 0, kind := 4, int := some .u32 }
def ty112 : TI := { size := 65, agg := true, bytes := 65, zero := [.int .u8 0, .int .u8 0, .int .u8 0, .int .u8 0, .int .u8 0, .int .u8 0, .int .u8 0, .int .u8 0, .int .u8 0, .int .u8 0, .int .u8 0, .int .u8 0, .int .u8 0, .int .u8 0, .int .u8 0, .int .u8 0, .int .u8 0, .int .u8 0, .int .u8 0, .int .u8 0, .int .u8 0, .int .u8 0, .int .u8 0, .int .u8 0, .int .u8 0, .int .u8 0, .int .u8 0, .int .u8 0, .int .u8 0, .int .u8 0, .int .u8 0, .int .u8 0, .int .u8 0, .int .u8 0, .int .u8 0, .int .u8 0, .int .u8 0, .int .u8 0, .int .u8 0, .int .u8 0, .int .u8 0, .int .u8 0, .int .u8 0, .int .u8 0, .int .u8 0, .int .u8 0, .int .u8 0, .int .u8 0, .int .u8 0, .int .u8 0, .int .u8 0, .int .u8 0, .int .u8 0, .int .u8 0, .int .u8 0, .int .u8 0, .int .u8 0, .int .u8 0, .int .u8 0, .int .u8 0, .int .u8 0, .int .u8 0, .int .u8 0, .int .u8 0, .int .u8 0], fields := [], elem := 5, kind := 6 }
def ty113 : TI := { size := 1, agg := false, bytes := 8, zero := [.int .u64 0], fields := [], elem := 0, kind := 4, int := some .u64 }
def ty116 : TI := { size := 32, agg := true, bytes := 32, zero := [.int .u8 0, .int .u8 0, .int .u8 0, .int .u8 0, .int .u8 0, .int .u8 0, .int .u8 0, .int .u8 0, .int .u8 0, .int .u8 0, .int .u8 0, .int .u8 0, .int .u8 0, .int .u8 0, .int .u8 0, .int .u8 0, .int .u8 0, .int .u8 0, .int .u8 0, .int .u8 0, .int .u8 0, .int .u8 0, .int .u8 0, .int .u8 0, .int .u8 0, .int .u8 0, .int .u8 0, .int .u8 0, .int .u8 0, .int .u8 0, .int .u8 0, .int .u8 0], fields := [], elem := 5, kind := 6 }
def ty117 : TI := { size := 64, agg := true, bytes := 64, zero := [.int .u8 0, .int .u8 0, .int .u8 0, .int .u8 0, .int .u8 0, .int .u8 0, .int .u8 0, .int .u8 0, .int .u8 0, .int .u8 0, .int .u8 0, .int .u8 0, .int .u8 0, .int .u8 0, .int .u8 0, .int .u8 0, .int .u8 0, .int .u8 0, .int .u8 0, .int .u8 0, .int .u8 0, .int .u8 0, .int .u8 0, .int .u8 0, .int .u8 0, .int .u8 0, .int .u8 0, .int .u8 0, .int .u8 0, .int .u8 0, .int .u8 0, .int .u8 0, .int .u8 0, .int .u8 0, .int .u8 0, .int .u8 0, .int .u8 0, .int .u8 0, .int .u8 0, .int .u8 0, .int .u8 0, .int .u8 0, .int .u8 0, .int .u8 0, .int .u8 0, .int .u8 0, .int .u8 0, .int .u8 0, .int .u8 0, .int .u8 0, .int .u8 0, .int .u8 0, .int .u8 0, .int .u8 0, .int .u8 0, .int .u8 0, .int .u8 0, .int .u8 0, .int .u8 0, .int .u8 0, .int .u8 0, .int .u8 0, .int .u8 0, .int .u8 0], fields := [], elem := 5, kind := 6 }
def tT (t : Nat) : Option TI := match t with
 | 1 => some ty1
 | 2 => some ty2
 | 3 => some ty3
 | 4 => some ty4
 | 5 => some ty5
 | 6 => some ty6
 | 9 => some ty9
 | 12 => some ty12
 | 20 => some ty20
 | 22 => some ty22
 | 23 => some ty23
 | 25 => some ty25
 | 28 => some ty28
 | 30 => some ty30
 | 40 => some ty40
 | 51 => some ty51
 | 53 => some ty53
 | 54 => some ty54
 | 56 => some ty56
 | 60 => some ty60
 | 62 => some ty62
 | 64 => some ty64
 | 67 => some ty67
 | 69 => some ty69
 | 72 => some ty72
 | 79 => some ty79
 | 89 => some ty89
 | 95 => some ty95
 | 98 => some ty98
 | 100 => some ty100
 | 103 => some ty103
 | 104 => some ty104
 | 110 => some ty110
 | 111 => some ty111
 | 112 => some ty112
 | 113 => some ty113
 | 116 => some ty116
 | 117 => some ty117
 | _ => none
noncomputable def fF (f : FuncId) : Option Func := match f with
 | 3 => some Tryd.f3
 | 4 => some Tryd.f4
 | 5 => some Tryd.f5
 | 6 => some Tryd.f6
 | 7 => some Tryd.f7
 | 8 => some Tryd.f8
 | 9 => some Tryd.f9
 | 10 => some Tryd.f10
 | 11 => some Tryd.f11
 | 12 => some Tryd.f12
 | 13 => some Tryd.f13
 | 14 => some Tryd.f14
 | 15 => some Tryd.f15
 | 16 => some Tryd.f16
 | 17 => some Tryd.f17
 | 18 => some Tryd.f18
 | 19 => some Tryd.f19
 | 20 => some Tryd.f20
 | 21 => some Tryd.f21
 | 22 => some Tryd.f22
 | 23 => some Tryd.f23
 | 24 => some Tryd.f24
 | 25 => some Tryd.f25
 | 26 => some Tryd.f26
 | 27 => some Tryd.f27
 | 28 => some Tryd.f28
 | 29 => some Tryd.f29
 | 30 => some Tryd.f30
 | 31 => some Tryd.f31
 | 32 => some Tryd.f32
 | 33 => some Tryd.f33
 | 34 => some Tryd.f34
 | 35 => some Tryd.f35
 | 36 => some Tryd.f36
 | 37 => some Tryd.f37
 | 38 => some Tryd.f38
 | 39 => some Tryd.f39
 | 40 => some Tryd.f40
 | 42 => some Tryd.f42
 | 43 => some Tryd.f43
 | 44 => some Tryd.f44
 | 45 => some Tryd.f45
 | 46 => some Tryd.f46
 | 47 => some Tryd.f47
 | 48 => some Tryd.f48
 | 49 => some Tryd.f49
 | 50 => some Tryd.f50
 | 51 => some Tryd.f51
 | 52 => some Tryd.f52
 | 53 => some Tryd.f53
 | 54 => some Tryd.f54
 | 55 => some Tryd.f55
 | 56 => some Tryd.f56
 | 57 => some Tryd.f57
 | 58 => some Tryd.f58
 | 59 => some Tryd.f59
 | 60 => some Tryd.f60
 | 61 => some Tryd.f61
 | 62 => some Tryd.f62
 | 63 => some Tryd.f63
 | 64 => some Tryd.f64
 | 65 => some Tryd.f65
 | 66 => some Tryd.f66
 | 67 => some Tryd.f67
 | 68 => some Tryd.f68
 | 69 => some Tryd.f69
 | 70 => some Tryd.f70
 | 71 => some Tryd.f71
 | 72 => some Tryd.f72
 | 74 => some Tryd.f74
 | 75 => some Tryd.f75
 | 76 => some Tryd.f76
 | 77 => some Tryd.f77
 | 78 => some Tryd.f78
 | 79 => some Tryd.f79
 | 80 => some Tryd.f80
 | 81 => some Tryd.f81
 | 82 => some Tryd.f82
 | 83 => some Tryd.f83
 | 84 => some Tryd.f84
 | 85 => some Tryd.f85
 | 86 => some Tryd.f86
 | 87 => some Tryd.f87
 | 88 => some Tryd.f88
 | 89 => some Tryd.f89
 | 90 => some Tryd.f90
 | 91 => some Tryd.f91
 | 92 => some Tryd.f92
 | 93 => some Tryd.f93
 | 94 => some Tryd.f94
 | 95 => some Tryd.f95
 | 96 => some Tryd.f96
 | 97 => some Tryd.f97
 | 100 => some Tryd.f100
 | 101 => some Tryd.f101
 | 102 => some Tryd.f102
 | 103 => some Tryd.f103
 | 104 => some Tryd.f104
 | 105 => some Tryd.f105
 | 108 => some Tryd.f108
 | 109 => some Tryd.f109
 | 115 => some Tryd.f115
 | 118 => some Tryd.f118
 | 119 => some Tryd.f119
 | 120 => some Tryd.f120
 | _ => none
def hint3 : Hint :=
 {loops := fun n => match n with
   | _ => none
  freeze := []
  eff := fun r i => match r, i with
   | 1, 0 => true
   | 1, 7 => true
   | _, _ => false }
def hint7 : Hint :=
 {loops := fun n => match n with
   | _ => none
  freeze := []
  eff := fun r i => match r, i with
   | 3, 1 => true
   | 3, 5 => true
   | 3, 10 => true
   | 3, 21 => true
   | 3, 22 => true
   | _, _ => false }
def hint8 : Hint :=
 {loops := fun n => match n with
   | _ => none
  freeze := []
  eff := fun r i => match r, i with
   | 3, 1 => true
   | 3, 5 => true
   | 3, 14 => true
   | 3, 15 => true
   | _, _ => false }
def hint9 : Hint :=
 {loops := fun n => match n with
   | _ => none
  freeze := []
  eff := fun r i => match r, i with
   | 6, 2 => true
   | 6, 7 => true
   | 6, 14 => true
   | _, _ => false }
def hint10 : Hint :=
 {loops := fun n => match n with
   | _ => none
  freeze := []
  eff := fun r i => match r, i with
   | 5, 5 => true
   | 5, 16 => true
   | 5, 17 => true
   | _, _ => false }
def hint11 : Hint :=
 {loops := fun n => match n with
   | _ => none
  freeze := []
  eff := fun r i => match r, i with
   | 9, 10 => true
   | _, _ => false }
def hint12 : Hint :=
 {loops := fun n => match n with
   | _ => none
  freeze := []
  eff := fun r i => match r, i with
   | 3, 8 => true
   | _, _ => false }
def hint18 : Hint :=
 {loops := fun n => match n with
   | _ => none
  freeze := []
  eff := fun _ _ => false
  dfr := true
  flat := true }
def hint19 : Hint :=
 {loops := fun n => match n with
   | 6 => some ([(1, none), (3, none), (4, none)], [(1, [])])
   | 12 => some ([(1, none), (3, none), (5, none)], [(1, [])])
   | _ => none
  freeze := []
  eff := fun _ _ => false }
def hint21 : Hint :=
 {loops := fun n => match n with
   | _ => none
  freeze := []
  eff := fun _ _ => false
  ord := fun n => match n with
   | 4 => some ([(4, 5)], [[0, 1, 2, 3, 4, 5, 6, 7], [0, 1, 2, 3, 5, 4, 6, 7]])
   | _ => none }
def hint23 : Hint :=
 {loops := fun n => match n with
   | _ => none
  freeze := [8]
  eff := fun _ _ => false }
def hint26 : Hint :=
 {loops := fun n => match n with
   | _ => none
  freeze := [6]
  eff := fun _ _ => false }
def hint28 : Hint :=
 {loops := fun n => match n with
   | 2 => some ([(0, none), (3, none)], [])
   | _ => none
  freeze := []
  eff := fun _ _ => false }
def hint29 : Hint :=
 {loops := fun n => match n with
   | 3 => some ([(3, none), (7, none), (8, none), (9, none)], [])
   | _ => none
  freeze := []
  eff := fun _ _ => false }
def hint30 : Hint :=
 {loops := fun n => match n with
   | 3 => some ([(3, none), (7, none), (8, none), (9, none)], [])
   | _ => none
  freeze := []
  eff := fun _ _ => false }
def hint31 : Hint :=
 {loops := fun n => match n with
   | 3 => some ([(1, none), (3, some 6), (4, none)], [(1, [])])
   | _ => none
  freeze := []
  eff := fun _ _ => false }
def hint33 : Hint :=
 {loops := fun n => match n with
   | _ => none
  freeze := []
  eff := fun r i => match r, i with
   | 1, 29 => true
   | 1, 31 => true
   | _, _ => false }
def hint34 : Hint :=
 {loops := fun n => match n with
   | 3 => some ([(2, none), (3, none), (5, none), (6, none)], [(2, []), (3, [])])
   | _ => none
  freeze := []
  eff := fun r i => match r, i with
   | 1, 24 => true
   | 1, 26 => true
   | 5, 10 => true
   | _, _ => false }
def hint36 : Hint :=
 {loops := fun n => match n with
   | 6 => some ([(1, none), (17, none), (18, none), (19, none)], [])
   | _ => none
  freeze := []
  eff := fun _ _ => false }
def hint37 : Hint :=
 {loops := fun n => match n with
   | 3 => some ([(1, none), (3, none), (4, none)], [(1, [])])
   | _ => none
  freeze := []
  eff := fun _ _ => false }
def hint38 : Hint :=
 {loops := fun n => match n with
   | 3 => some ([(1, none), (3, none), (4, none)], [(1, [])])
   | _ => none
  freeze := []
  eff := fun _ _ => false }
def hint39 : Hint :=
 {loops := fun n => match n with
   | 2 => some ([(1, none), (2, none), (5, none)], [(2, [])])
   | _ => none
  freeze := []
  eff := fun r i => match r, i with
   | 4, 8 => true
   | _, _ => false }
def hint40 : Hint :=
 {loops := fun n => match n with
   | 14 => some ([(0, none), (3, none), (66, none), (67, none), (68, none)], [(3, [])])
   | 28 => some ([(0, none), (108, none), (109, none), (110, none)], [])
   | _ => none
  freeze := []
  eff := fun r i => match r, i with
   | 9, 8 => true
   | 11, 12 => true
   | 11, 14 => true
   | _, _ => false
  hide := true }
def hint42 : Hint :=
 {loops := fun n => match n with
   | _ => none
  freeze := []
  eff := fun _ _ => false
  flat := true }
def hint43 : Hint :=
 {loops := fun n => match n with
   | 29 => some ([(0, none), (1, none), (4, none), (5, none), (59, none), (60, none)], [(4, []), (5, [(5, 6)])])
   | _ => none
  freeze := []
  eff := fun r i => match r, i with
   | 33, 1 => true
   | 33, 4 => true
   | _, _ => false
  keep := true
  pan := fun n => match n with
   | 33 => some (4, [0, 1, 2, 3], [5, 6, 7, 8])
   | _ => none }
def hint44 : Hint :=
 {loops := fun n => match n with
   | _ => none
  freeze := []
  eff := fun _ _ => false
  hide := true }
def hint45 : Hint :=
 {loops := fun n => match n with
   | _ => none
  freeze := []
  eff := fun r i => match r, i with
   | 8, 11 => true
   | _, _ => false }
def hint47 : Hint :=
 {loops := fun n => match n with
   | _ => none
  freeze := []
  eff := fun r i => match r, i with
   | 1, 20 => true
   | 25, 6 => true
   | _, _ => false
  hide := true }
def hint48 : Hint :=
 {loops := fun n => match n with
   | 4 => some ([(1, none), (2, none), (3, none), (6, none), (7, none), (16, none), (17, none), (18, none)], [(3, []), (6, []), (7, [(2, 3), (5, 6)])])
   | 11 => some ([(1, none), (2, none), (6, none), (7, none), (38, none), (39, none), (40, none)], [(6, []), (7, [(2, 3), (5, 6)])])
   | _ => none
  freeze := []
  eff := fun _ _ => false }
def hint50 : Hint :=
 {loops := fun n => match n with
   | 4 => some ([(1, none), (2, none), (3, none), (6, none), (7, none), (8, none)], [(3, []), (6, []), (7, [(2, 3), (5, 6)])])
   | 11 => some ([(1, none), (2, none), (3, none), (6, none), (7, none), (10, none)], [(3, []), (6, []), (7, [(2, 3), (5, 6)])])
   | _ => none
  freeze := []
  eff := fun _ _ => false }
def hint52 : Hint :=
 {loops := fun n => match n with
   | 4 => some ([(2, none), (3, none), (4, none), (6, none), (7, none), (8, none)], [(3, []), (4, []), (6, []), (7, [(2, 3), (5, 6)])])
   | 15 => some ([(2, none), (3, none), (4, none), (6, none), (7, none), (10, none)], [(3, []), (4, []), (6, []), (7, [(2, 3), (5, 6)])])
   | _ => none
  freeze := []
  eff := fun _ _ => false }
def hint55 : Hint :=
 {loops := fun n => match n with
   | _ => none
  freeze := []
  eff := fun _ _ => false
  hide := true }
def hint56 : Hint :=
 {loops := fun n => match n with
   | 4 => some ([(2, none), (13, none), (14, none), (15, none)], [])
   | _ => none
  freeze := []
  eff := fun r i => match r, i with
   | 1, 3 => true
   | _, _ => false
  hide := true }
def hint57 : Hint :=
 {loops := fun n => match n with
   | 3 => some ([(3, none), (6, none), (7, none), (8, none)], [])
   | _ => none
  freeze := []
  eff := fun _ _ => false }
def hint60 : Hint :=
 {loops := fun n => match n with
   | 2 => some ([(0, none), (1, none), (2, none), (11, none), (12, none), (13, none)], [])
   | _ => none
  freeze := []
  eff := fun _ _ => false }
def hint61 : Hint :=
 {loops := fun n => match n with
   | _ => none
  freeze := []
  eff := fun r i => match r, i with
   | 1, 14 => true
   | 1, 16 => true
   | _, _ => false }
def hint62 : Hint :=
 {loops := fun n => match n with
   | 2 => some ([(0, none), (1, none), (2, none), (11, none), (12, none), (13, none)], [])
   | _ => none
  freeze := []
  eff := fun _ _ => false }
def hint63 : Hint :=
 {loops := fun n => match n with
   | 2 => some ([(0, none), (3, none)], [])
   | _ => none
  freeze := []
  eff := fun _ _ => false }
def hint66 : Hint :=
 {loops := fun n => match n with
   | 2 => some ([(0, none), (1, none), (5, none)], [])
   | _ => none
  freeze := []
  eff := fun r i => match r, i with
   | 4, 32 => true
   | 4, 34 => true
   | _, _ => false }
def hint67 : Hint :=
 {loops := fun n => match n with
   | 13 => some ([(1, none), (2, none), (55, none), (56, none), (57, none)], [(2, [])])
   | _ => none
  freeze := []
  eff := fun _ _ => false }
def hint70 : Hint :=
 {loops := fun n => match n with
   | 9 => some ([(1, none), (2, none), (5, none)], [(2, [])])
   | _ => none
  freeze := []
  eff := fun _ _ => false }
def hint76 : Hint :=
 {loops := fun n => match n with
   | _ => none
  freeze := []
  eff := fun _ _ => false
  hide := true }
def hint77 : Hint :=
 {loops := fun n => match n with
   | 3 => some ([(0, none), (1, none), (4, none), (5, none)], [(4, []), (5, [(2, 3)])])
   | _ => none
  freeze := []
  eff := fun r i => match r, i with
   | 3, 1 => true
   | 3, 4 => true
   | _, _ => false
  keep := true
  pan := fun n => match n with
   | 3 => some (4, [0, 1, 2, 3], [5, 6, 7, 8])
   | _ => none }
def hint78 : Hint :=
 {loops := fun n => match n with
   | 3 => some ([(0, none), (3, none), (4, none)], [])
   | 7 => some ([(0, none), (3, none), (4, none), (5, none), (6, none)], [])
   | _ => none
  freeze := []
  eff := fun _ _ => false
  hide := true }
def hint79 : Hint :=
 {loops := fun n => match n with
   | 1 => some ([(0, none), (1, none), (6, none), (7, none)], [])
   | _ => none
  freeze := []
  eff := fun _ _ => false
  hide := true }
def hint80 : Hint :=
 {loops := fun n => match n with
   | 4 => some ([(0, none), (3, none)], [])
   | _ => none
  freeze := []
  eff := fun _ _ => false
  hide := true }
def hint81 : Hint :=
 {loops := fun n => match n with
   | _ => none
  freeze := []
  eff := fun _ _ => false
  hide := true }
def hint82 : Hint :=
 {loops := fun n => match n with
   | 5 => some ([(0, none), (1, none), (5, some 6)], [])
   | _ => none
  freeze := []
  eff := fun _ _ => false
  hide := true }
def hint85 : Hint :=
 {loops := fun n => match n with
   | 3 => some ([(0, none), (2, none), (3, none)], [(2, []), (3, [(2, 3)])])
   | _ => none
  freeze := []
  eff := fun r i => match r, i with
   | 4, 1 => true
   | 4, 3 => true
   | _, _ => false
  keep := true }
def hint86 : Hint :=
 {loops := fun n => match n with
   | 3 => some ([(0, none), (3, none), (4, none)], [])
   | 7 => some ([(0, none), (3, none), (4, none), (5, none), (6, none)], [])
   | _ => none
  freeze := []
  eff := fun _ _ => false
  hide := true }
def hint87 : Hint :=
 {loops := fun n => match n with
   | 1 => some ([(0, none), (1, none), (4, none)], [])
   | _ => none
  freeze := []
  eff := fun _ _ => false
  hide := true }
def hint88 : Hint :=
 {loops := fun n => match n with
   | 5 => some ([(0, none), (3, none)], [])
   | _ => none
  freeze := []
  eff := fun r i => match r, i with
   | 2, 26 => true
   | 5, 20 => true
   | _, _ => false
  hide := true }
def hint89 : Hint :=
 {loops := fun n => match n with
   | _ => none
  freeze := []
  eff := fun _ _ => false
  hide := true }
def hint90 : Hint :=
 {loops := fun n => match n with
   | 4 => some ([(0, none), (1, none), (2, none), (7, some 6)], [])
   | _ => none
  freeze := []
  eff := fun _ _ => false
  hide := true }
def hint95 : Hint :=
 {loops := fun n => match n with
   | 2 => some ([(0, none), (3, none)], [])
   | _ => none
  freeze := []
  eff := fun _ _ => false }
def hint100 : Hint :=
 {loops := fun n => match n with
   | _ => none
  freeze := []
  eff := fun _ _ => false
  hide := true }
def hint102 : Hint :=
 {loops := fun n => match n with
   | 6 => some ([(1, none), (2, none), (5, none), (6, none), (7, none)], [(2, [])])
   | _ => none
  freeze := []
  eff := fun _ _ => false
  hide := true }
def hint103 : Hint :=
 {loops := fun n => match n with
   | _ => none
  freeze := []
  eff := fun _ _ => false
  hide := true }
def hint104 : Hint :=
 {loops := fun n => match n with
   | _ => none
  freeze := []
  eff := fun _ _ => false
  hide := true }
def hint105 : Hint :=
 {loops := fun n => match n with
   | 6 => some ([(0, none), (1, none), (5, none)], [])
   | _ => none
  freeze := []
  eff := fun _ _ => false
  hide := true }
def hint108 : Hint :=
 {loops := fun n => match n with
   | _ => none
  freeze := []
  eff := fun _ _ => false
  hide := true }
def hint109 : Hint :=
 {loops := fun n => match n with
   | _ => none
  freeze := []
  eff := fun _ _ => false
  hide := true }
def hH (f : FuncId) : Hint := match f with
 | 3 => hint3
 | 7 => hint7
 | 8 => hint8
 | 9 => hint9
 | 10 => hint10
 | 11 => hint11
 | 12 => hint12
 | 18 => hint18
 | 19 => hint19
 | 21 => hint21
 | 23 => hint23
 | 26 => hint26
 | 28 => hint28
 | 29 => hint29
 | 30 => hint30
 | 31 => hint31
 | 33 => hint33
 | 34 => hint34
 | 36 => hint36
 | 37 => hint37
 | 38 => hint38
 | 39 => hint39
 | 40 => hint40
 | 42 => hint42
 | 43 => hint43
 | 44 => hint44
 | 45 => hint45
 | 47 => hint47
 | 48 => hint48
 | 50 => hint50
 | 52 => hint52
 | 55 => hint55
 | 56 => hint56
 | 57 => hint57
 | 60 => hint60
 | 61 => hint61
 | 62 => hint62
 | 63 => hint63
 | 66 => hint66
 | 67 => hint67
 | 70 => hint70
 | 76 => hint76
 | 77 => hint77
 | 78 => hint78
 | 79 => hint79
 | 80 => hint80
 | 81 => hint81
 | 82 => hint82
 | 85 => hint85
 | 86 => hint86
 | 87 => hint87
 | 88 => hint88
 | 89 => hint89
 | 90 => hint90
 | 95 => hint95
 | 100 => hint100
 | 102 => hint102
 | 103 => hint103
 | 104 => hint104
 | 105 => hint105
 | 108 => hint108
 | 109 => hint109
 | _ => { loops := fun _ => none, freeze := [], eff := fun _ _ => false }
end Go.Proofs.YtehkgiofchmpaaaDoor
namespace Go.Proofs.YtehkgiofchmpaaaDoor
open Go Go.Abs Go.Abs.Asks
set_option linter.unusedVariables false
def kClone (sz bytes : Nat) (ds : List D) : Option Out := match ds with
 | [x] => match AV.row sz (.d x) with
  | some es => match Nat.ble (es.length * (bytes + 1)) most with
   | true => some (.ret [.own (.res 0) sz es])
   | false => none
  | none => none
 | _ => none
def strsOf : List (List D) → Option (List ByteArray)
 | [] => some []
 | [.str s] :: es => match strsOf es with
  | some l => some (s :: l)
  | none => none
 | _ => none
def bldFit (n m : Nat) : Bool := Nat.ble ((n + m) * 2) most
def bytesOf : List (List D) → List UInt8
 | [.int _ n] :: es => UInt8.ofNat n.toNat :: bytesOf es
 | _ => []
def bldAt (a : AV) (g : G) : Option (Nat × Nat × Box × Abs.Id × List (List D)) := match a with
 | .ptr d t off => match g.bx d t with
  | some b => match !b.frz && Nat.beq off 0 && Nat.beq b.ty.1 56 && Nat.beq b.ty.2 5 with
   | true => match bldIn d t b with
    | some (i, es) => some (d, t, b, i, es)
    | none => none
   | false => none
  | none => none
 | _ => none
def xWriteS (args : List AV) (g : G) : Option (Bool × Out × G) := match args with
 | [a, .d (.str s)] => match bldAt a g with
  | some (d, t, b, i, es) => some (bldFit es.length s.data.toList.length, .ret [.d (.int .i64 s.data.toList.length), .d .nili], { g with bx := bldBx d t i b (es ++ byteRow s.data.toList) g.bx })
  | none => none
 | _ => none
def xWriteB (args : List AV) (g : G) : Option (Bool × Out × G) := match args with
 | [a, .d (.int .u8 c)] => match bldAt a g with
  | some (d, t, b, i, es) => some (bldFit es.length 1 && decide (c = (UInt8.ofNat c.toNat).toNat), .ret [.d .nili], { g with bx := bldBx d t i b (es ++ byteRow [UInt8.ofNat c.toNat]) g.bx })
  | none => none
 | _ => none
def xString (args : List AV) (g : G) : Option (Bool × Out × G) := match args with
 | [a] => match bldAt a g with
  | some (d, t, b, i, es) => match es with
   | [] => none
   | _ :: _ => some (bldFit es.length 0, .ret [.d (.str ⟨(bytesOf es).toArray⟩)], { g with bx := demBx i g.bx })
  | none => none
 | _ => none
def dig2 (n : Nat) : List UInt8 := match Nat.blt n 10 with
 | true => [UInt8.ofNat (48 + n)]
 | false => [UInt8.ofNat (48 + n / 10), UInt8.ofNat (48 + n % 10)]
def kItoa (ds : List D) : Option Out := match ds with
 | [.int .i64 n] => match decide (0 ≤ n) && decide (n < 100) with
  | true => some (.ret [.d (.str ⟨(dig2 n.toNat).toArray⟩)])
  | false => match decide (-9223372036854775808 ≤ n) && decide (n ≤ 9223372036854775807) with
   | true => some (.ret [.d (.str ⟨(Lib.itoa n).toArray⟩)])
   | false => none
 | _ => none
instance : Tabs where
 p w := Lib.TabIs Tryd.prog w "internal/strconv.uint64pow10" .u64 Lib.pow10Tab
 bs := [0]
 lt w h b hb := by
  simp only [List.mem_singleton] at hb
  subst hb
  unfold Lib.TabIs World.var? at h
  rw [show Tryd.prog.globalNamed "internal/strconv.uint64pow10" = some 0 by kernel_rfl] at h
  by_cases hlt : 0 < w.heap.size
  ·exact hlt
  ·simp only [Option.bind_some, Array.getElem?_eq_none (Nat.le_of_not_lt hlt)] at h
   cases h
 loc w w' he h := by
  have e := he 0 (by simp)
  unfold Lib.TabIs World.var? at h ⊢
  rw [show Tryd.prog.globalNamed "internal/strconv.uint64pow10" = some 0 by kernel_rfl] at h ⊢
  simp only [Option.bind_some] at h ⊢
  rw [e]
  exact h
def kX (f : Nat) : Option (List AV → G → Option (Bool × Out × G)) := match f with
 | 71 => some xWriteS
 | 74 => some xWriteB
 | 41 => some xString
 | _ => none
def kK (f : Nat) : Option (List D → Option Out) := match f with
 | 73 => some kItoa
 | _ => none
noncomputable def pr (m : Nat) : Pr := { T := tT, F := fF, H := hH, K := kK, X := kX, fuel := m }
end Go.Proofs.YtehkgiofchmpaaaDoor
namespace Go.Proofs.YtehkgiofchmpaaaDoor
open Go Go.Abs
set_option linter.unusedVariables false
set_option maxRecDepth 100000
theorem ty1ok : TyFact Tryd.prog 1 ty1 := TyFact.of (by kernel_rfl) (by kernel_rfl) (by kernel_rfl) (by kernel_rfl) (by kernel_rfl) (by kernel_rfl) rfl (fun _ => rfl) Tryd.underlying1 rfl ⟨_, _, _, rfl⟩ (by kernel_rfl) (.inl rfl) (fun k h => by cases h)
theorem ty2ok : TyFact Tryd.prog 2 ty2 := TyFact.of (by kernel_rfl) (by kernel_rfl) (by kernel_rfl) (by kernel_rfl) (by kernel_rfl) (by kernel_rfl) rfl (fun _ => rfl) Tryd.underlying2 rfl ⟨_, rfl⟩ (by kernel_rfl) (.inl rfl) (fun k h => by cases h; exact Tryd.underlying2)
theorem ty3ok : TyFact Tryd.prog 3 ty3 := TyFact.of (by kernel_rfl) (by kernel_rfl) (by kernel_rfl) (by kernel_rfl) (by kernel_rfl) (by kernel_rfl) rfl (fun _ => rfl) Tryd.underlying3 rfl ⟨_, rfl⟩ (by kernel_rfl) (.inl rfl) (fun k h => by cases h; exact Tryd.underlying3)
theorem ty4ok : TyFact Tryd.prog 4 ty4 := TyFact.of (by kernel_rfl) (by kernel_rfl) (by kernel_rfl) (by kernel_rfl) (by kernel_rfl) (by kernel_rfl) rfl (fun _ => rfl) Tryd.underlying4 rfl rfl (by kernel_rfl) (.inl rfl) (fun k h => by cases h)
theorem ty5ok : TyFact Tryd.prog 5 ty5 := TyFact.of (by kernel_rfl) (by kernel_rfl) (by kernel_rfl) (by kernel_rfl) (by kernel_rfl) (by kernel_rfl) rfl (fun _ => rfl) Tryd.underlying5 rfl ⟨_, rfl⟩ (by kernel_rfl) (.inl rfl) (fun k h => by cases h; exact Tryd.underlying5)
theorem ty6ok : TyFact Tryd.prog 6 ty6 := TyFact.of (by kernel_rfl) (by kernel_rfl) (by kernel_rfl) (by kernel_rfl) (by kernel_rfl) (by kernel_rfl) rfl (fun _ => rfl) Tryd.underlying6 rfl ⟨_, rfl⟩ (by kernel_rfl) (.inl rfl) (fun k h => by cases h; exact Tryd.underlying6)
theorem ty9ok : TyFact Tryd.prog 9 ty9 := TyFact.of (by kernel_rfl) (by kernel_rfl) (by kernel_rfl) (by kernel_rfl) (by kernel_rfl) (by kernel_rfl) rfl (fun _ => rfl) Tryd.underlying9 rfl rfl (by kernel_rfl) (.inl rfl) (fun k h => by cases h)
theorem ty12ok : TyFact Tryd.prog 12 ty12 := TyFact.of (by kernel_rfl) (by kernel_rfl) (by kernel_rfl) (by kernel_rfl) (by kernel_rfl) (by kernel_rfl) rfl (fun _ => rfl) Tryd.underlying12 rfl ⟨_, rfl⟩ (by kernel_rfl) (.inl rfl) (fun k h => by cases h; exact Tryd.underlying12)
theorem ty20ok : TyFact Tryd.prog 20 ty20 := TyFact.of (by kernel_rfl) (by kernel_rfl) (by kernel_rfl) (by kernel_rfl) (by kernel_rfl) (by kernel_rfl) rfl (fun _ => rfl) Tryd.underlying20 rfl rfl (by kernel_rfl) (.inl rfl) (fun k h => by cases h)
theorem ty22ok : TyFact Tryd.prog 22 ty22 := TyFact.of (by kernel_rfl) (by kernel_rfl) (by kernel_rfl) (by kernel_rfl) (by kernel_rfl) (by kernel_rfl) rfl (fun _ => rfl) Tryd.underlying22 rfl rfl (by kernel_rfl) (.inl rfl) (fun k h => by cases h)
theorem ty23ok : TyFact Tryd.prog 23 ty23 := TyFact.of (by kernel_rfl) (by kernel_rfl) (by kernel_rfl) (by kernel_rfl) (by kernel_rfl) (by kernel_rfl) rfl (fun _ => rfl) Tryd.underlying23 rfl rfl (by kernel_rfl) (.inl rfl) (fun k h => by cases h)
theorem ty25ok : TyFact Tryd.prog 25 ty25 := TyFact.of (by kernel_rfl) (by kernel_rfl) (by kernel_rfl) (by kernel_rfl) (by kernel_rfl) (by kernel_rfl) rfl (fun h => by cases h) Tryd.underlying25 rfl ⟨_, rfl, by kernel_rfl, by decide⟩ (by kernel_rfl) (.inl rfl) (fun k h => by cases h)
theorem ty28ok : TyFact Tryd.prog 28 ty28 := TyFact.of (by kernel_rfl) (by kernel_rfl) (by kernel_rfl) (by kernel_rfl) (by kernel_rfl) (by kernel_rfl) rfl (fun _ => rfl) Tryd.underlying28 rfl ⟨_, _, _, rfl⟩ (by kernel_rfl) (.inl rfl) (fun k h => by cases h)
theorem ty30ok : TyFact Tryd.prog 30 ty30 := TyFact.of (by kernel_rfl) (by kernel_rfl) (by kernel_rfl) (by kernel_rfl) (by kernel_rfl) (by kernel_rfl) rfl (fun _ => rfl) Tryd.underlying30 rfl ⟨_, rfl⟩ (by kernel_rfl) (.inl rfl) (fun k h => by cases h; exact Tryd.underlying30)
theorem ty40ok : TyFact Tryd.prog 40 ty40 := TyFact.of (by kernel_rfl) (by kernel_rfl) (by kernel_rfl) (by kernel_rfl) (by kernel_rfl) (by kernel_rfl) rfl (fun h => by cases h) Tryd.underlying40 rfl ⟨_, rfl, by kernel_rfl, by decide⟩ (by kernel_rfl) (.inl rfl) (fun k h => by cases h)
theorem ty51ok : TyFact Tryd.prog 51 ty51 := TyFact.of (by kernel_rfl) (by kernel_rfl) (by kernel_rfl) (by kernel_rfl) (by kernel_rfl) (by kernel_rfl) rfl (fun _ => rfl) Tryd.underlying51 rfl ⟨_, _, _, rfl⟩ (by kernel_rfl) (.inl rfl) (fun k h => by cases h)
theorem ty53ok : TyFact Tryd.prog 53 ty53 := TyFact.of (by kernel_rfl) (by kernel_rfl) (by kernel_rfl) (by kernel_rfl) (by kernel_rfl) (by kernel_rfl) rfl (fun _ => rfl) Tryd.underlying53 rfl ⟨_, rfl⟩ (by kernel_rfl) (.inl rfl) (fun k h => by cases h)
theorem ty54ok : TyFact Tryd.prog 54 ty54 := TyFact.of (by kernel_rfl) (by kernel_rfl) (by kernel_rfl) (by kernel_rfl) (by kernel_rfl) (by kernel_rfl) rfl (fun _ => rfl) Tryd.underlying54 rfl rfl (by kernel_rfl) (.inl rfl) (fun k h => by cases h)
theorem ty56ok : TyFact Tryd.prog 56 ty56 := TyFact.of (by kernel_rfl) (by kernel_rfl) (by kernel_rfl) (by kernel_rfl) (by kernel_rfl) (by kernel_rfl) rfl (fun h => by cases h) Tryd.underlying56 rfl ⟨_, rfl, by kernel_rfl, by decide⟩ (by kernel_rfl) (.inr rfl) (fun k h => by cases h)
theorem ty60ok : TyFact Tryd.prog 60 ty60 := TyFact.of (by kernel_rfl) (by kernel_rfl) (by kernel_rfl) (by kernel_rfl) (by kernel_rfl) (by kernel_rfl) rfl (fun h => by cases h) Tryd.underlying60 rfl ⟨_, rfl, by kernel_rfl, by decide⟩ (by kernel_rfl) (.inl rfl) (fun k h => by cases h)
theorem ty62ok : TyFact Tryd.prog 62 ty62 := TyFact.of (by kernel_rfl) (by kernel_rfl) (by kernel_rfl) (by kernel_rfl) (by kernel_rfl) (by kernel_rfl) rfl (fun _ => rfl) Tryd.underlying62 rfl ⟨_, rfl⟩ (by kernel_rfl) (.inl rfl) (fun k h => by cases h)
theorem ty64ok : TyFact Tryd.prog 64 ty64 := TyFact.of (by kernel_rfl) (by kernel_rfl) (by kernel_rfl) (by kernel_rfl) (by kernel_rfl) (by kernel_rfl) rfl (fun h => by cases h) Tryd.underlying64 rfl ⟨_, rfl, by kernel_rfl, by decide⟩ (by kernel_rfl) (.inl rfl) (fun k h => by cases h)
theorem ty67ok : TyFact Tryd.prog 67 ty67 := TyFact.of (by kernel_rfl) (by kernel_rfl) (by kernel_rfl) (by kernel_rfl) (by kernel_rfl) (by kernel_rfl) rfl (fun _ => rfl) Tryd.underlying67 rfl ⟨_, rfl⟩ (by kernel_rfl) (.inl rfl) (fun k h => by cases h)
theorem ty69ok : TyFact Tryd.prog 69 ty69 := TyFact.of (by kernel_rfl) (by kernel_rfl) (by kernel_rfl) (by kernel_rfl) (by kernel_rfl) (by kernel_rfl) rfl (fun h => by cases h) Tryd.underlying69 rfl ⟨_, rfl, by kernel_rfl, by decide⟩ (by kernel_rfl) (.inl rfl) (fun k h => by cases h)
theorem ty72ok : TyFact Tryd.prog 72 ty72 := TyFact.of (by kernel_rfl) (by kernel_rfl) (by kernel_rfl) (by kernel_rfl) (by kernel_rfl) (by kernel_rfl) rfl (fun _ => rfl) Tryd.underlying72 rfl ⟨_, _, _, rfl⟩ (by kernel_rfl) (.inl rfl) (fun k h => by cases h)
theorem ty79ok : TyFact Tryd.prog 79 ty79 := TyFact.of (by kernel_rfl) (by kernel_rfl) (by kernel_rfl) (by kernel_rfl) (by kernel_rfl) (by kernel_rfl) rfl (fun _ => rfl) Tryd.underlying79 rfl ⟨_, _, _, rfl⟩ (by kernel_rfl) (.inl rfl) (fun k h => by cases h)
theorem ty89ok : TyFact Tryd.prog 89 ty89 := TyFact.of (by kernel_rfl) (by kernel_rfl) (by kernel_rfl) (by kernel_rfl) (by kernel_rfl) (by kernel_rfl) rfl (fun _ => rfl) Tryd.underlying89 rfl ⟨_, rfl⟩ (by kernel_rfl) (.inl rfl) (fun k h => by cases h)
theorem ty95ok : TyFact Tryd.prog 95 ty95 := TyFact.of (by kernel_rfl) (by kernel_rfl) (by kernel_rfl) (by kernel_rfl) (by kernel_rfl) (by kernel_rfl) rfl (fun _ => rfl) Tryd.underlying95 rfl rfl (by kernel_rfl) (.inl rfl) (fun k h => by cases h)
theorem ty98ok : TyFact Tryd.prog 98 ty98 := TyFact.of (by kernel_rfl) (by kernel_rfl) (by kernel_rfl) (by kernel_rfl) (by kernel_rfl) (by kernel_rfl) rfl (fun _ => rfl) Tryd.underlying98 rfl rfl (by kernel_rfl) (.inl rfl) (fun k h => by cases h)
theorem ty100ok : TyFact Tryd.prog 100 ty100 := TyFact.of (by kernel_rfl) (by kernel_rfl) (by kernel_rfl) (by kernel_rfl) (by kernel_rfl) (by kernel_rfl) rfl (fun _ => rfl) Tryd.underlying100 rfl trivial (by kernel_rfl) (.inl rfl) (fun k h => by cases h)
theorem ty103ok : TyFact Tryd.prog 103 ty103 := TyFact.of (by kernel_rfl) (by kernel_rfl) (by kernel_rfl) (by kernel_rfl) (by kernel_rfl) (by kernel_rfl) rfl (fun h => by cases h) Tryd.underlying103 rfl trivial (by kernel_rfl) (.inl rfl) (fun k h => by cases h)
theorem ty104ok : TyFact Tryd.prog 104 ty104 := TyFact.of (by kernel_rfl) (by kernel_rfl) (by kernel_rfl) (by kernel_rfl) (by kernel_rfl) (by kernel_rfl) rfl (fun _ => rfl) Tryd.underlying104 rfl ⟨_, rfl⟩ (by kernel_rfl) (.inl rfl) (fun k h => by cases h; exact Tryd.underlying104)
theorem ty110ok : TyFact Tryd.prog 110 ty110 := TyFact.of (by kernel_rfl) (by kernel_rfl) (by kernel_rfl) (by kernel_rfl) (by kernel_rfl) (by kernel_rfl) rfl (fun h => by cases h) Tryd.underlying110 rfl trivial (by kernel_rfl) (.inl rfl) (fun k h => by cases h)
theorem ty111ok : TyFact Tryd.prog 111 ty111 := TyFact.of (by kernel_rfl) (by kernel_rfl) (by kernel_rfl) (by kernel_rfl) (by kernel_rfl) (by kernel_rfl) rfl (fun _ => rfl) Tryd.underlying111 rfl ⟨_, rfl⟩ (by kernel_rfl) (.inl rfl) (fun k h => by cases h; exact Tryd.underlying111)
theorem ty112ok : TyFact Tryd.prog 112 ty112 := TyFact.of (by kernel_rfl) (by kernel_rfl) (by kernel_rfl) (by kernel_rfl) (by kernel_rfl) (by kernel_rfl) rfl (fun h => by cases h) Tryd.underlying112 rfl trivial (by kernel_rfl) (.inl rfl) (fun k h => by cases h)
theorem ty113ok : TyFact Tryd.prog 113 ty113 := TyFact.of (by kernel_rfl) (by kernel_rfl) (by kernel_rfl) (by kernel_rfl) (by kernel_rfl) (by kernel_rfl) rfl (fun _ => rfl) Tryd.underlying113 rfl ⟨_, rfl⟩ (by kernel_rfl) (.inl rfl) (fun k h => by cases h; exact Tryd.underlying113)
theorem ty116ok : TyFact Tryd.prog 116 ty116 := TyFact.of (by kernel_rfl) (by kernel_rfl) (by kernel_rfl) (by kernel_rfl) (by kernel_rfl) (by kernel_rfl) rfl (fun h => by cases h) Tryd.underlying116 rfl trivial (by kernel_rfl) (.inl rfl) (fun k h => by cases h)
theorem ty117ok : TyFact Tryd.prog 117 ty117 := TyFact.of (by kernel_rfl) (by kernel_rfl) (by kernel_rfl) (by kernel_rfl) (by kernel_rfl) (by kernel_rfl) rfl (fun h => by cases h) Tryd.underlying117 rfl trivial (by kernel_rfl) (.inl rfl) (fun k h => by cases h)
theorem tyok : TyOk Tryd.prog tT := by
 intro t ti h
 unfold tT at h
 split at h
 ·cases h; exact ty1ok
 ·cases h; exact ty2ok
 ·cases h; exact ty3ok
 ·cases h; exact ty4ok
 ·cases h; exact ty5ok
 ·cases h; exact ty6ok
 ·cases h; exact ty9ok
 ·cases h; exact ty12ok
 ·cases h; exact ty20ok
 ·cases h; exact ty22ok
 ·cases h; exact ty23ok
 ·cases h; exact ty25ok
 ·cases h; exact ty28ok
 ·cases h; exact ty30ok
 ·cases h; exact ty40ok
 ·cases h; exact ty51ok
 ·cases h; exact ty53ok
 ·cases h; exact ty54ok
 ·cases h; exact ty56ok
 ·cases h; exact ty60ok
 ·cases h; exact ty62ok
 ·cases h; exact ty64ok
 ·cases h; exact ty67ok
 ·cases h; exact ty69ok
 ·cases h; exact ty72ok
 ·cases h; exact ty79ok
 ·cases h; exact ty89ok
 ·cases h; exact ty95ok
 ·cases h; exact ty98ok
 ·cases h; exact ty100ok
 ·cases h; exact ty103ok
 ·cases h; exact ty104ok
 ·cases h; exact ty110ok
 ·cases h; exact ty111ok
 ·cases h; exact ty112ok
 ·cases h; exact ty113ok
 ·cases h; exact ty116ok
 ·cases h; exact ty117ok
 ·cases h
theorem fok : ∀ f F, fF f = some F → Tryd.prog.funcs[f]? = some F ∧ (F.name == "runtime.NumGoroutine") = false := by
 intro f F h
 unfold fF at h
 split at h
 ·cases h; exact ⟨Tryd.func3, by kernel_rfl⟩
 ·cases h; exact ⟨Tryd.func4, by kernel_rfl⟩
 ·cases h; exact ⟨Tryd.func5, by kernel_rfl⟩
 ·cases h; exact ⟨Tryd.func6, by kernel_rfl⟩
 ·cases h; exact ⟨Tryd.func7, by kernel_rfl⟩
 ·cases h; exact ⟨Tryd.func8, by kernel_rfl⟩
 ·cases h; exact ⟨Tryd.func9, by kernel_rfl⟩
 ·cases h; exact ⟨Tryd.func10, by kernel_rfl⟩
 ·cases h; exact ⟨Tryd.func11, by kernel_rfl⟩
 ·cases h; exact ⟨Tryd.func12, by kernel_rfl⟩
 ·cases h; exact ⟨Tryd.func13, by kernel_rfl⟩
 ·cases h; exact ⟨Tryd.func14, by kernel_rfl⟩
 ·cases h; exact ⟨Tryd.func15, by kernel_rfl⟩
 ·cases h; exact ⟨Tryd.func16, by kernel_rfl⟩
 ·cases h; exact ⟨Tryd.func17, by kernel_rfl⟩
 ·cases h; exact ⟨Tryd.func18, by kernel_rfl⟩
 ·cases h; exact ⟨Tryd.func19, by kernel_rfl⟩
 ·cases h; exact ⟨Tryd.func20, by kernel_rfl⟩
 ·cases h; exact ⟨Tryd.func21, by kernel_rfl⟩
 ·cases h; exact ⟨Tryd.func22, by kernel_rfl⟩
 ·cases h; exact ⟨Tryd.func23, by kernel_rfl⟩
 ·cases h; exact ⟨Tryd.func24, by kernel_rfl⟩
 ·cases h; exact ⟨Tryd.func25, by kernel_rfl⟩
 ·cases h; exact ⟨Tryd.func26, by kernel_rfl⟩
 ·cases h; exact ⟨Tryd.func27, by kernel_rfl⟩
 ·cases h; exact ⟨Tryd.func28, by kernel_rfl⟩
 ·cases h; exact ⟨Tryd.func29, by kernel_rfl⟩
 ·cases h; exact ⟨Tryd.func30, by kernel_rfl⟩
 ·cases h; exact ⟨Tryd.func31, by kernel_rfl⟩
 ·cases h; exact ⟨Tryd.func32, by kernel_rfl⟩
 ·cases h; exact ⟨Tryd.func33, by kernel_rfl⟩
 ·cases h; exact ⟨Tryd.func34, by kernel_rfl⟩
 ·cases h; exact ⟨Tryd.func35, by kernel_rfl⟩
 ·cases h; exact ⟨Tryd.func36, by kernel_rfl⟩
 ·cases h; exact ⟨Tryd.func37, by kernel_rfl⟩
 ·cases h; exact ⟨Tryd.func38, by kernel_rfl⟩
 ·cases h; exact ⟨Tryd.func39, by kernel_rfl⟩
 ·cases h; exact ⟨Tryd.func40, by kernel_rfl⟩
 ·cases h; exact ⟨Tryd.func42, by kernel_rfl⟩
 ·cases h; exact ⟨Tryd.func43, by kernel_rfl⟩
 ·cases h; exact ⟨Tryd.func44, by kernel_rfl⟩
 ·cases h; exact ⟨Tryd.func45, by kernel_rfl⟩
 ·cases h; exact ⟨Tryd.func46, by kernel_rfl⟩
 ·cases h; exact ⟨Tryd.func47, by kernel_rfl⟩
 ·cases h; exact ⟨Tryd.func48, by kernel_rfl⟩
 ·cases h; exact ⟨Tryd.func49, by kernel_rfl⟩
 ·cases h; exact ⟨Tryd.func50, by kernel_rfl⟩
 ·cases h; exact ⟨Tryd.func51, by kernel_rfl⟩
 ·cases h; exact ⟨Tryd.func52, by kernel_rfl⟩
 ·cases h; exact ⟨Tryd.func53, by kernel_rfl⟩
 ·cases h; exact ⟨Tryd.func54, by kernel_rfl⟩
 ·cases h; exact ⟨Tryd.func55, by kernel_rfl⟩
 ·cases h; exact ⟨Tryd.func56, by kernel_rfl⟩
 ·cases h; exact ⟨Tryd.func57, by kernel_rfl⟩
 ·cases h; exact ⟨Tryd.func58, by kernel_rfl⟩
 ·cases h; exact ⟨Tryd.func59, by kernel_rfl⟩
 ·cases h; exact ⟨Tryd.func60, by kernel_rfl⟩
 ·cases h; exact ⟨Tryd.func61, by kernel_rfl⟩
 ·cases h; exact ⟨Tryd.func62, by kernel_rfl⟩
 ·cases h; exact ⟨Tryd.func63, by kernel_rfl⟩
 ·cases h; exact ⟨Tryd.func64, by kernel_rfl⟩
 ·cases h; exact ⟨Tryd.func65, by kernel_rfl⟩
 ·cases h; exact ⟨Tryd.func66, by kernel_rfl⟩
 ·cases h; exact ⟨Tryd.func67, by kernel_rfl⟩
 ·cases h; exact ⟨Tryd.func68, by kernel_rfl⟩
 ·cases h; exact ⟨Tryd.func69, by kernel_rfl⟩
 ·cases h; exact ⟨Tryd.func70, by kernel_rfl⟩
 ·cases h; exact ⟨Tryd.func71, by kernel_rfl⟩
 ·cases h; exact ⟨Tryd.func72, by kernel_rfl⟩
 ·cases h; exact ⟨Tryd.func74, by kernel_rfl⟩
 ·cases h; exact ⟨Tryd.func75, by kernel_rfl⟩
 ·cases h; exact ⟨Tryd.func76, by kernel_rfl⟩
 ·cases h; exact ⟨Tryd.func77, by kernel_rfl⟩
 ·cases h; exact ⟨Tryd.func78, by kernel_rfl⟩
 ·cases h; exact ⟨Tryd.func79, by kernel_rfl⟩
 ·cases h; exact ⟨Tryd.func80, by kernel_rfl⟩
 ·cases h; exact ⟨Tryd.func81, by kernel_rfl⟩
 ·cases h; exact ⟨Tryd.func82, by kernel_rfl⟩
 ·cases h; exact ⟨Tryd.func83, by kernel_rfl⟩
 ·cases h; exact ⟨Tryd.func84, by kernel_rfl⟩
 ·cases h; exact ⟨Tryd.func85, by kernel_rfl⟩
 ·cases h; exact ⟨Tryd.func86, by kernel_rfl⟩
 ·cases h; exact ⟨Tryd.func87, by kernel_rfl⟩
 ·cases h; exact ⟨Tryd.func88, by kernel_rfl⟩
 ·cases h; exact ⟨Tryd.func89, by kernel_rfl⟩
 ·cases h; exact ⟨Tryd.func90, by kernel_rfl⟩
 ·cases h; exact ⟨Tryd.func91, by kernel_rfl⟩
 ·cases h; exact ⟨Tryd.func92, by kernel_rfl⟩
 ·cases h; exact ⟨Tryd.func93, by kernel_rfl⟩
 ·cases h; exact ⟨Tryd.func94, by kernel_rfl⟩
 ·cases h; exact ⟨Tryd.func95, by kernel_rfl⟩
 ·cases h; exact ⟨Tryd.func96, by kernel_rfl⟩
 ·cases h; exact ⟨Tryd.func97, by kernel_rfl⟩
 ·cases h; exact ⟨Tryd.func100, by kernel_rfl⟩
 ·cases h; exact ⟨Tryd.func101, by kernel_rfl⟩
 ·cases h; exact ⟨Tryd.func102, by kernel_rfl⟩
 ·cases h; exact ⟨Tryd.func103, by kernel_rfl⟩
 ·cases h; exact ⟨Tryd.func104, by kernel_rfl⟩
 ·cases h; exact ⟨Tryd.func105, by kernel_rfl⟩
 ·cases h; exact ⟨Tryd.func108, by kernel_rfl⟩
 ·cases h; exact ⟨Tryd.func109, by kernel_rfl⟩
 ·cases h; exact ⟨Tryd.func115, by kernel_rfl⟩
 ·cases h; exact ⟨Tryd.func118, by kernel_rfl⟩
 ·cases h; exact ⟨Tryd.func119, by kernel_rfl⟩
 ·cases h; exact ⟨Tryd.func120, by kernel_rfl⟩
 ·cases h
theorem cok3 : (match Tryd.f3.body with
  | some c => codeOk (hH 3) c
  | none => true) = true := by kernel_rfl
theorem cok4 : (match Tryd.f4.body with
  | some c => codeOk (hH 4) c
  | none => true) = true := by kernel_rfl
theorem cok5 : (match Tryd.f5.body with
  | some c => codeOk (hH 5) c
  | none => true) = true := by kernel_rfl
theorem cok6 : (match Tryd.f6.body with
  | some c => codeOk (hH 6) c
  | none => true) = true := by kernel_rfl
theorem cok7 : (match Tryd.f7.body with
  | some c => codeOk (hH 7) c
  | none => true) = true := by kernel_rfl
theorem cok8 : (match Tryd.f8.body with
  | some c => codeOk (hH 8) c
  | none => true) = true := by kernel_rfl
theorem cok9 : (match Tryd.f9.body with
  | some c => codeOk (hH 9) c
  | none => true) = true := by kernel_rfl
theorem cok10 : (match Tryd.f10.body with
  | some c => codeOk (hH 10) c
  | none => true) = true := by kernel_rfl
theorem cok11 : (match Tryd.f11.body with
  | some c => codeOk (hH 11) c
  | none => true) = true := by kernel_rfl
theorem cok12 : (match Tryd.f12.body with
  | some c => codeOk (hH 12) c
  | none => true) = true := by kernel_rfl
theorem cok13 : (match Tryd.f13.body with
  | some c => codeOk (hH 13) c
  | none => true) = true := by kernel_rfl
theorem cok14 : (match Tryd.f14.body with
  | some c => codeOk (hH 14) c
  | none => true) = true := by kernel_rfl
theorem cok15 : (match Tryd.f15.body with
  | some c => codeOk (hH 15) c
  | none => true) = true := by kernel_rfl
theorem cok16 : (match Tryd.f16.body with
  | some c => codeOk (hH 16) c
  | none => true) = true := by kernel_rfl
theorem cok17 : (match Tryd.f17.body with
  | some c => codeOk (hH 17) c
  | none => true) = true := by kernel_rfl
theorem cok18 : (match Tryd.f18.body with
  | some c => codeOk (hH 18) c
  | none => true) = true := by kernel_rfl
theorem cok19 : (match Tryd.f19.body with
  | some c => codeOk (hH 19) c
  | none => true) = true := by kernel_rfl
theorem cok20 : (match Tryd.f20.body with
  | some c => codeOk (hH 20) c
  | none => true) = true := by kernel_rfl
theorem cok21 : (match Tryd.f21.body with
  | some c => codeOk (hH 21) c
  | none => true) = true := by kernel_rfl
theorem cok22 : (match Tryd.f22.body with
  | some c => codeOk (hH 22) c
  | none => true) = true := by kernel_rfl
theorem cok23 : (match Tryd.f23.body with
  | some c => codeOk (hH 23) c
  | none => true) = true := by kernel_rfl
theorem cok24 : (match Tryd.f24.body with
  | some c => codeOk (hH 24) c
  | none => true) = true := by kernel_rfl
theorem cok25 : (match Tryd.f25.body with
  | some c => codeOk (hH 25) c
  | none => true) = true := by kernel_rfl
theorem cok26 : (match Tryd.f26.body with
  | some c => codeOk (hH 26) c
  | none => true) = true := by kernel_rfl
theorem cok27 : (match Tryd.f27.body with
  | some c => codeOk (hH 27) c
  | none => true) = true := by kernel_rfl
theorem cok28 : (match Tryd.f28.body with
  | some c => codeOk (hH 28) c
  | none => true) = true := by kernel_rfl
theorem cok29 : (match Tryd.f29.body with
  | some c => codeOk (hH 29) c
  | none => true) = true := by kernel_rfl
theorem cok30 : (match Tryd.f30.body with
  | some c => codeOk (hH 30) c
  | none => true) = true := by kernel_rfl
theorem cok31 : (match Tryd.f31.body with
  | some c => codeOk (hH 31) c
  | none => true) = true := by kernel_rfl
theorem cok32 : (match Tryd.f32.body with
  | some c => codeOk (hH 32) c
  | none => true) = true := by kernel_rfl
theorem cok33 : (match Tryd.f33.body with
  | some c => codeOk (hH 33) c
  | none => true) = true := by kernel_rfl
theorem cok34 : (match Tryd.f34.body with
  | some c => codeOk (hH 34) c
  | none => true) = true := by kernel_rfl
theorem cok35 : (match Tryd.f35.body with
  | some c => codeOk (hH 35) c
  | none => true) = true := by kernel_rfl
theorem cok36 : (match Tryd.f36.body with
  | some c => codeOk (hH 36) c
  | none => true) = true := by kernel_rfl
theorem cok37 : (match Tryd.f37.body with
  | some c => codeOk (hH 37) c
  | none => true) = true := by kernel_rfl
theorem cok38 : (match Tryd.f38.body with
  | some c => codeOk (hH 38) c
  | none => true) = true := by kernel_rfl
theorem cok39 : (match Tryd.f39.body with
  | some c => codeOk (hH 39) c
  | none => true) = true := by kernel_rfl
theorem cok40 : (match Tryd.f40.body with
  | some c => codeOk (hH 40) c
  | none => true) = true := by kernel_rfl
theorem cok42 : (match Tryd.f42.body with
  | some c => codeOk (hH 42) c
  | none => true) = true := by kernel_rfl
theorem cok43 : (match Tryd.f43.body with
  | some c => codeOk (hH 43) c
  | none => true) = true := by kernel_rfl
theorem cok44 : (match Tryd.f44.body with
  | some c => codeOk (hH 44) c
  | none => true) = true := by kernel_rfl
theorem cok45 : (match Tryd.f45.body with
  | some c => codeOk (hH 45) c
  | none => true) = true := by kernel_rfl
theorem cok46 : (match Tryd.f46.body with
  | some c => codeOk (hH 46) c
  | none => true) = true := by kernel_rfl
theorem cok47 : (match Tryd.f47.body with
  | some c => codeOk (hH 47) c
  | none => true) = true := by kernel_rfl
theorem cok48 : (match Tryd.f48.body with
  | some c => codeOk (hH 48) c
  | none => true) = true := by kernel_rfl
theorem cok49 : (match Tryd.f49.body with
  | some c => codeOk (hH 49) c
  | none => true) = true := by kernel_rfl
theorem cok50 : (match Tryd.f50.body with
  | some c => codeOk (hH 50) c
  | none => true) = true := by kernel_rfl
theorem cok51 : (match Tryd.f51.body with
  | some c => codeOk (hH 51) c
  | none => true) = true := by kernel_rfl
theorem cok52 : (match Tryd.f52.body with
  | some c => codeOk (hH 52) c
  | none => true) = true := by kernel_rfl
theorem cok53 : (match Tryd.f53.body with
  | some c => codeOk (hH 53) c
  | none => true) = true := by kernel_rfl
theorem cok54 : (match Tryd.f54.body with
  | some c => codeOk (hH 54) c
  | none => true) = true := by kernel_rfl
theorem cok55 : (match Tryd.f55.body with
  | some c => codeOk (hH 55) c
  | none => true) = true := by kernel_rfl
theorem cok56 : (match Tryd.f56.body with
  | some c => codeOk (hH 56) c
  | none => true) = true := by kernel_rfl
theorem cok57 : (match Tryd.f57.body with
  | some c => codeOk (hH 57) c
  | none => true) = true := by kernel_rfl
theorem cok58 : (match Tryd.f58.body with
  | some c => codeOk (hH 58) c
  | none => true) = true := by kernel_rfl
theorem cok59 : (match Tryd.f59.body with
  | some c => codeOk (hH 59) c
  | none => true) = true := by kernel_rfl
theorem cok60 : (match Tryd.f60.body with
  | some c => codeOk (hH 60) c
  | none => true) = true := by kernel_rfl
theorem cok61 : (match Tryd.f61.body with
  | some c => codeOk (hH 61) c
  | none => true) = true := by kernel_rfl
theorem cok62 : (match Tryd.f62.body with
  | some c => codeOk (hH 62) c
  | none => true) = true := by kernel_rfl
theorem cok63 : (match Tryd.f63.body with
  | some c => codeOk (hH 63) c
  | none => true) = true := by kernel_rfl
theorem cok64 : (match Tryd.f64.body with
  | some c => codeOk (hH 64) c
  | none => true) = true := by kernel_rfl
theorem cok65 : (match Tryd.f65.body with
  | some c => codeOk (hH 65) c
  | none => true) = true := by kernel_rfl
theorem cok66 : (match Tryd.f66.body with
  | some c => codeOk (hH 66) c
  | none => true) = true := by kernel_rfl
theorem cok67 : (match Tryd.f67.body with
  | some c => codeOk (hH 67) c
  | none => true) = true := by kernel_rfl
theorem cok68 : (match Tryd.f68.body with
  | some c => codeOk (hH 68) c
  | none => true) = true := by kernel_rfl
theorem cok69 : (match Tryd.f69.body with
  | some c => codeOk (hH 69) c
  | none => true) = true := by kernel_rfl
theorem cok70 : (match Tryd.f70.body with
  | some c => codeOk (hH 70) c
  | none => true) = true := by kernel_rfl
theorem cok71 : (match Tryd.f71.body with
  | some c => codeOk (hH 71) c
  | none => true) = true := by kernel_rfl
theorem cok72 : (match Tryd.f72.body with
  | some c => codeOk (hH 72) c
  | none => true) = true := by kernel_rfl
theorem cok74 : (match Tryd.f74.body with
  | some c => codeOk (hH 74) c
  | none => true) = true := by kernel_rfl
theorem cok75 : (match Tryd.f75.body with
  | some c => codeOk (hH 75) c
  | none => true) = true := by kernel_rfl
theorem cok76 : (match Tryd.f76.body with
  | some c => codeOk (hH 76) c
  | none => true) = true := by kernel_rfl
theorem cok77 : (match Tryd.f77.body with
  | some c => codeOk (hH 77) c
  | none => true) = true := by kernel_rfl
theorem cok78 : (match Tryd.f78.body with
  | some c => codeOk (hH 78) c
  | none => true) = true := by kernel_rfl
theorem cok79 : (match Tryd.f79.body with
  | some c => codeOk (hH 79) c
  | none => true) = true := by kernel_rfl
theorem cok80 : (match Tryd.f80.body with
  | some c => codeOk (hH 80) c
  | none => true) = true := by kernel_rfl
theorem cok81 : (match Tryd.f81.body with
  | some c => codeOk (hH 81) c
  | none => true) = true := by kernel_rfl
theorem cok82 : (match Tryd.f82.body with
  | some c => codeOk (hH 82) c
  | none => true) = true := by kernel_rfl
theorem cok83 : (match Tryd.f83.body with
  | some c => codeOk (hH 83) c
  | none => true) = true := by kernel_rfl
theorem cok84 : (match Tryd.f84.body with
  | some c => codeOk (hH 84) c
  | none => true) = true := by kernel_rfl
theorem cok85 : (match Tryd.f85.body with
  | some c => codeOk (hH 85) c
  | none => true) = true := by kernel_rfl
theorem cok86 : (match Tryd.f86.body with
  | some c => codeOk (hH 86) c
  | none => true) = true := by kernel_rfl
theorem cok87 : (match Tryd.f87.body with
  | some c => codeOk (hH 87) c
  | none => true) = true := by kernel_rfl
theorem cok88 : (match Tryd.f88.body with
  | some c => codeOk (hH 88) c
  | none => true) = true := by kernel_rfl
theorem cok89 : (match Tryd.f89.body with
  | some c => codeOk (hH 89) c
  | none => true) = true := by kernel_rfl
theorem cok90 : (match Tryd.f90.body with
  | some c => codeOk (hH 90) c
  | none => true) = true := by kernel_rfl
theorem cok91 : (match Tryd.f91.body with
  | some c => codeOk (hH 91) c
  | none => true) = true := by kernel_rfl
theorem cok92 : (match Tryd.f92.body with
  | some c => codeOk (hH 92) c
  | none => true) = true := by kernel_rfl
theorem cok93 : (match Tryd.f93.body with
  | some c => codeOk (hH 93) c
  | none => true) = true := by kernel_rfl
theorem cok94 : (match Tryd.f94.body with
  | some c => codeOk (hH 94) c
  | none => true) = true := by kernel_rfl
theorem cok95 : (match Tryd.f95.body with
  | some c => codeOk (hH 95) c
  | none => true) = true := by kernel_rfl
theorem cok96 : (match Tryd.f96.body with
  | some c => codeOk (hH 96) c
  | none => true) = true := by kernel_rfl
theorem cok97 : (match Tryd.f97.body with
  | some c => codeOk (hH 97) c
  | none => true) = true := by kernel_rfl
theorem cok100 : (match Tryd.f100.body with
  | some c => codeOk (hH 100) c
  | none => true) = true := by kernel_rfl
theorem cok101 : (match Tryd.f101.body with
  | some c => codeOk (hH 101) c
  | none => true) = true := by kernel_rfl
theorem cok102 : (match Tryd.f102.body with
  | some c => codeOk (hH 102) c
  | none => true) = true := by kernel_rfl
theorem cok103 : (match Tryd.f103.body with
  | some c => codeOk (hH 103) c
  | none => true) = true := by kernel_rfl
theorem cok104 : (match Tryd.f104.body with
  | some c => codeOk (hH 104) c
  | none => true) = true := by kernel_rfl
theorem cok105 : (match Tryd.f105.body with
  | some c => codeOk (hH 105) c
  | none => true) = true := by kernel_rfl
theorem cok108 : (match Tryd.f108.body with
  | some c => codeOk (hH 108) c
  | none => true) = true := by kernel_rfl
theorem cok109 : (match Tryd.f109.body with
  | some c => codeOk (hH 109) c
  | none => true) = true := by kernel_rfl
theorem cok115 : (match Tryd.f115.body with
  | some c => codeOk (hH 115) c
  | none => true) = true := by kernel_rfl
theorem cok118 : (match Tryd.f118.body with
  | some c => codeOk (hH 118) c
  | none => true) = true := by kernel_rfl
theorem cok119 : (match Tryd.f119.body with
  | some c => codeOk (hH 119) c
  | none => true) = true := by kernel_rfl
theorem cok120 : (match Tryd.f120.body with
  | some c => codeOk (hH 120) c
  | none => true) = true := by kernel_rfl
theorem hok : ∀ f F code, fF f = some F → F.body = some code → codeOk (hH f) code = true := by
 intro f F code h hb
 unfold fF at h
 split at h
 ·cases h; have := cok3; rw [hb] at this; exact this
 ·cases h; have := cok4; rw [hb] at this; exact this
 ·cases h; have := cok5; rw [hb] at this; exact this
 ·cases h; have := cok6; rw [hb] at this; exact this
 ·cases h; have := cok7; rw [hb] at this; exact this
 ·cases h; have := cok8; rw [hb] at this; exact this
 ·cases h; have := cok9; rw [hb] at this; exact this
 ·cases h; have := cok10; rw [hb] at this; exact this
 ·cases h; have := cok11; rw [hb] at this; exact this
 ·cases h; have := cok12; rw [hb] at this; exact this
 ·cases h; have := cok13; rw [hb] at this; exact this
 ·cases h; have := cok14; rw [hb] at this; exact this
 ·cases h; have := cok15; rw [hb] at this; exact this
 ·cases h; have := cok16; rw [hb] at this; exact this
 ·cases h; have := cok17; rw [hb] at this; exact this
 ·cases h; have := cok18; rw [hb] at this; exact this
 ·cases h; have := cok19; rw [hb] at this; exact this
 ·cases h; have := cok20; rw [hb] at this; exact this
 ·cases h; have := cok21; rw [hb] at this; exact this
 ·cases h; have := cok22; rw [hb] at this; exact this
 ·cases h; have := cok23; rw [hb] at this; exact this
 ·cases h; have := cok24; rw [hb] at this; exact this
 ·cases h; have := cok25; rw [hb] at this; exact this
 ·cases h; have := cok26; rw [hb] at this; exact this
 ·cases h; have := cok27; rw [hb] at this; exact this
 ·cases h; have := cok28; rw [hb] at this; exact this
 ·cases h; have := cok29; rw [hb] at this; exact this
 ·cases h; have := cok30; rw [hb] at this; exact this
 ·cases h; have := cok31; rw [hb] at this; exact this
 ·cases h; have := cok32; rw [hb] at this; exact this
 ·cases h; have := cok33; rw [hb] at this; exact this
 ·cases h; have := cok34; rw [hb] at this; exact this
 ·cases h; have := cok35; rw [hb] at this; exact this
 ·cases h; have := cok36; rw [hb] at this; exact this
 ·cases h; have := cok37; rw [hb] at this; exact this
 ·cases h; have := cok38; rw [hb] at this; exact this
 ·cases h; have := cok39; rw [hb] at this; exact this
 ·cases h; have := cok40; rw [hb] at this; exact this
 ·cases h; have := cok42; rw [hb] at this; exact this
 ·cases h; have := cok43; rw [hb] at this; exact this
 ·cases h; have := cok44; rw [hb] at this; exact this
 ·cases h; have := cok45; rw [hb] at this; exact this
 ·cases h; have := cok46; rw [hb] at this; exact this
 ·cases h; have := cok47; rw [hb] at this; exact this
 ·cases h; have := cok48; rw [hb] at this; exact this
 ·cases h; have := cok49; rw [hb] at this; exact this
 ·cases h; have := cok50; rw [hb] at this; exact this
 ·cases h; have := cok51; rw [hb] at this; exact this
 ·cases h; have := cok52; rw [hb] at this; exact this
 ·cases h; have := cok53; rw [hb] at this; exact this
 ·cases h; have := cok54; rw [hb] at this; exact this
 ·cases h; have := cok55; rw [hb] at this; exact this
 ·cases h; have := cok56; rw [hb] at this; exact this
 ·cases h; have := cok57; rw [hb] at this; exact this
 ·cases h; have := cok58; rw [hb] at this; exact this
 ·cases h; have := cok59; rw [hb] at this; exact this
 ·cases h; have := cok60; rw [hb] at this; exact this
 ·cases h; have := cok61; rw [hb] at this; exact this
 ·cases h; have := cok62; rw [hb] at this; exact this
 ·cases h; have := cok63; rw [hb] at this; exact this
 ·cases h; have := cok64; rw [hb] at this; exact this
 ·cases h; have := cok65; rw [hb] at this; exact this
 ·cases h; have := cok66; rw [hb] at this; exact this
 ·cases h; have := cok67; rw [hb] at this; exact this
 ·cases h; have := cok68; rw [hb] at this; exact this
 ·cases h; have := cok69; rw [hb] at this; exact this
 ·cases h; have := cok70; rw [hb] at this; exact this
 ·cases h; have := cok71; rw [hb] at this; exact this
 ·cases h; have := cok72; rw [hb] at this; exact this
 ·cases h; have := cok74; rw [hb] at this; exact this
 ·cases h; have := cok75; rw [hb] at this; exact this
 ·cases h; have := cok76; rw [hb] at this; exact this
 ·cases h; have := cok77; rw [hb] at this; exact this
 ·cases h; have := cok78; rw [hb] at this; exact this
 ·cases h; have := cok79; rw [hb] at this; exact this
 ·cases h; have := cok80; rw [hb] at this; exact this
 ·cases h; have := cok81; rw [hb] at this; exact this
 ·cases h; have := cok82; rw [hb] at this; exact this
 ·cases h; have := cok83; rw [hb] at this; exact this
 ·cases h; have := cok84; rw [hb] at this; exact this
 ·cases h; have := cok85; rw [hb] at this; exact this
 ·cases h; have := cok86; rw [hb] at this; exact this
 ·cases h; have := cok87; rw [hb] at this; exact this
 ·cases h; have := cok88; rw [hb] at this; exact this
 ·cases h; have := cok89; rw [hb] at this; exact this
 ·cases h; have := cok90; rw [hb] at this; exact this
 ·cases h; have := cok91; rw [hb] at this; exact this
 ·cases h; have := cok92; rw [hb] at this; exact this
 ·cases h; have := cok93; rw [hb] at this; exact this
 ·cases h; have := cok94; rw [hb] at this; exact this
 ·cases h; have := cok95; rw [hb] at this; exact this
 ·cases h; have := cok96; rw [hb] at this; exact this
 ·cases h; have := cok97; rw [hb] at this; exact this
 ·cases h; have := cok100; rw [hb] at this; exact this
 ·cases h; have := cok101; rw [hb] at this; exact this
 ·cases h; have := cok102; rw [hb] at this; exact this
 ·cases h; have := cok103; rw [hb] at this; exact this
 ·cases h; have := cok104; rw [hb] at this; exact this
 ·cases h; have := cok105; rw [hb] at this; exact this
 ·cases h; have := cok108; rw [hb] at this; exact this
 ·cases h; have := cok109; rw [hb] at this; exact this
 ·cases h; have := cok115; rw [hb] at this; exact this
 ·cases h; have := cok118; rw [hb] at this; exact this
 ·cases h; have := cok119; rw [hb] at this; exact this
 ·cases h; have := cok120; rw [hb] at this; exact this
 ·cases h
theorem mixok : Tryd.prog.follows .mixedOrders = true := by kernel_rfl
end Go.Proofs.YtehkgiofchmpaaaDoor
namespace Go.Proofs.YtehkgiofchmpaaaDoor
open Go Go.Abs Go.Abs.Asks
set_option linter.unusedVariables false
set_option linter.unusedSimpArgs false
set_option linter.unusedSectionVars false
variable [Asks]
theorem pSize_ev (t : Fm) : t.ok → Ev pr 29 [t.d] (.ret [.d (.int .i64 t.size)]) := by
 induction t using Fm.rec' with
 | _ t ih =>
  intro ht
  have hk := ht.ks
  have hs := ht.sizes
  apply Ev.enter; intro c; (conv=>arg 1;ext i;whnf)
  refine (Evx.loop hint29 3 (α := Nat) (fun a => [some (.d (.int .i64 ((1 + fsizes (t.ks.take a) : Nat) : Int))), some (.d (.sl 6 (fms t.ks))), some (.d (.int .i64 (fms t.ks).length)),some (.d (.int .i64 a))]) (fun a => []) 1 [] (fun a => t.ks.length - a) (fun a => .ret [.d (.int .i64 t.size)]) ?_ 0 (fun _ => rfl) (fun _ => rfl) (fun _ => rfl) (fun _ => by kernel_rfl)).to rfl
  intro a bx L ih'; (conv=>arg 1;ext i;whnf)
  refine Evx.bool (fun h2 => ?_) (fun h2 => ?_)
  ·have h2 := hold_true.1 h2
   simp only [fms_len, decide_eq_true_eq] at h2
   obtain ⟨x, hx⟩ := get_some (l := t.ks) (i := a) (by omega)
   (conv=>arg 1;ext i;whnf)
   refine Evx.idx rfl (fms_get hx) ?_
   (conv=>arg 1;ext i;whnf)
   refine Evx.call (ih a x hx (ht.kid hx)) ?_
   (conv=>arg 1;ext i;whnf)
   have h3 := fsizes_take hx
   have h4 := fsizes_take_le t.ks (a + 1)
   refine Evx.int (n' := ((1 + fsizes (t.ks.take (a + 1)) : Nat) : Int)) (by rw [wrap_small] <;> omega) ?_
   (conv=>arg 1;ext i;whnf)
   refine Evx.int (wrap_succ (by omega)) ?_
   (conv=>arg 1;ext i;whnf)
   exact ih' (a + 1) _ (by omega) (fun _ => by kernel_rfl)
  ·have h2 := hold_false.1 h2
   simp only [fms_len, decide_eq_false_iff_not] at h2
   (conv=>arg 1;ext i;whnf)
   refine Evx.pure ?_
   rw [List.take_of_length_le (by omega), ← t.size_eq]
theorem rSize_ev (t : Fm) : t.ok → Ev pr 37 [t.d] (.ret [.d (.int .i64 t.size)]) := by
 induction t using Fm.rec' with
 | _ t ih =>
  intro ht
  have hk := ht.ks
  have hs := ht.sizes
  apply Ev.enter; intro c; (conv=>arg 1;ext i;whnf)
  refine (Evx.loop hint37 3 (α := Nat) (fun a => [some (.ptr 1 1 0),some (.d (.int .i64 ((1 + fsizes (t.ks.take a) : Nat) : Int))), some (.d (.int .i64 a))]) (fun a => [some (fmBox t)]) 1 [] (fun a => t.ks.length - a) (fun a => .ret [.d (.int .i64 t.size)]) ?_ 0 (fun _ => rfl) (fun _ => rfl) (fun _ => rfl) (fun _ => by kernel_rfl)).to rfl
  intro a bx L ih'; (conv=>arg 1;ext i;whnf)
  refine Evx.bool (fun h2 => ?_) (fun h2 => ?_)
  ·have h2 := hold_true.1 h2
   simp only [fms_len, decide_eq_true_eq] at h2
   obtain ⟨x, hx⟩ := get_some (l := t.ks) (i := a) (by omega)
   (conv=>arg 1;ext i;whnf)
   refine Evx.idx rfl (fms_get hx) ?_
   (conv=>arg 1;ext i;whnf)
   refine Evx.call (ih a x hx (ht.kid hx)) ?_
   (conv=>arg 1;ext i;whnf)
   have h3 := fsizes_take hx
   have h4 := fsizes_take_le t.ks (a + 1)
   refine Evx.int (n' := ((1 + fsizes (t.ks.take (a + 1)) : Nat) : Int)) (by rw [wrap_small] <;> omega) ?_
   (conv=>arg 1;ext i;whnf)
   refine Evx.int (wrap_succ (by omega)) ?_
   (conv=>arg 1;ext i;whnf)
   exact ih' (a + 1) _ (by omega) (fun _ => by kernel_rfl)
  ·have h2 := hold_false.1 h2
   simp only [fms_len, decide_eq_false_iff_not] at h2
   (conv=>arg 1;ext i;whnf)
   refine Evx.pure ?_
   rw [List.take_of_length_le (by omega), ← t.size_eq]
theorem pDepth_ev (t : Fm) : t.ok → Ev pr 30 [t.d] (.ret [.d (.int .i64 t.depth)]) := by
 induction t using Fm.rec' with
 | _ t ih =>
  intro ht
  have hk := ht.ks
  have hs := ht.depths
  apply Ev.enter; intro c; (conv=>arg 1;ext i;whnf)
  refine (Evx.loop hint30 3 (α := Nat) (fun a => [some (.d (.int .i64 ((fdepths (t.ks.take a) : Nat) : Int))), some (.d (.sl 6 (fms t.ks))), some (.d (.int .i64 (fms t.ks).length)),some (.d (.int .i64 a))]) (fun a => []) 1 [] (fun a => t.ks.length - a) (fun a => .ret [.d (.int .i64 t.depth)]) ?_ 0 (fun _ => rfl) (fun _ => rfl) (fun _ => rfl) (fun _ => by kernel_rfl)).to rfl
  intro a bx L ih'; (conv=>arg 1;ext i;whnf)
  refine Evx.bool (fun h2 => ?_) (fun h2 => ?_)
  ·have h2 := hold_true.1 h2
   simp only [fms_len, decide_eq_true_eq] at h2
   obtain ⟨x, hx⟩ := get_some (l := t.ks) (i := a) (by omega)
   (conv=>arg 1;ext i;whnf)
   refine Evx.idx rfl (fms_get hx) ?_
   (conv=>arg 1;ext i;whnf)
   refine Evx.call (ih a x hx (ht.kid hx)) ?_
   (conv=>arg 1;ext i;whnf)
   have h3 := fdepths_take hx
   have h4 := fdepths_take_le t.ks (a + 1)
   refine Evx.int (n' := ((fdepths (t.ks.take (a + 1)) : Nat) : Int)) (by simp only [extI]; split <;> simp_all <;> omega) ?_
   (conv=>arg 1;ext i;whnf)
   refine Evx.int (wrap_succ (by omega)) ?_
   (conv=>arg 1;ext i;whnf)
   exact ih' (a + 1) _ (by omega) (fun _ => by kernel_rfl)
  ·have h2 := hold_false.1 h2
   simp only [fms_len, decide_eq_false_iff_not] at h2
   (conv=>arg 1;ext i;whnf)
   rw [List.take_of_length_le (by omega)]
   refine Evx.int (n' := (t.depth : Int)) (by rw [t.depth_eq, wrap_small] <;> omega) ?_
   (conv=>arg 1;ext i;whnf)
   exact Evx.pure rfl
theorem rDepth_ev (t : Fm) : t.ok → Ev pr 38 [t.d] (.ret [.d (.int .i64 t.depth)]) := by
 induction t using Fm.rec' with
 | _ t ih =>
  intro ht
  have hk := ht.ks
  have hs := ht.depths
  apply Ev.enter; intro c; (conv=>arg 1;ext i;whnf)
  refine (Evx.loop hint38 3 (α := Nat) (fun a => [some (.ptr 1 1 0),some (.d (.int .i64 ((fdepths (t.ks.take a) : Nat) : Int))), some (.d (.int .i64 a))]) (fun a => [some (fmBox t)]) 1 [] (fun a => t.ks.length - a) (fun a => .ret [.d (.int .i64 t.depth)]) ?_ 0 (fun _ => rfl) (fun _ => rfl) (fun _ => rfl) (fun _ => by kernel_rfl)).to rfl
  intro a bx L ih'; (conv=>arg 1;ext i;whnf)
  refine Evx.bool (fun h2 => ?_) (fun h2 => ?_)
  ·have h2 := hold_true.1 h2
   simp only [fms_len, decide_eq_true_eq] at h2
   obtain ⟨x, hx⟩ := get_some (l := t.ks) (i := a) (by omega)
   (conv=>arg 1;ext i;whnf)
   refine Evx.idx rfl (fms_get hx) ?_
   (conv=>arg 1;ext i;whnf)
   refine Evx.call (ih a x hx (ht.kid hx)) ?_
   (conv=>arg 1;ext i;whnf)
   have h3 := fdepths_take hx
   have h4 := fdepths_take_le t.ks (a + 1)
   refine Evx.int (n' := ((fdepths (t.ks.take (a + 1)) : Nat) : Int)) (by simp only [extI]; split <;> simp_all <;> omega) ?_
   (conv=>arg 1;ext i;whnf)
   refine Evx.int (wrap_succ (by omega)) ?_
   (conv=>arg 1;ext i;whnf)
   exact ih' (a + 1) _ (by omega) (fun _ => by kernel_rfl)
  ·have h2 := hold_false.1 h2
   simp only [fms_len, decide_eq_false_iff_not] at h2
   (conv=>arg 1;ext i;whnf)
   rw [List.take_of_length_le (by omega)]
   refine Evx.int (n' := (t.depth : Int)) (by rw [t.depth_eq, wrap_small] <;> omega) ?_
   (conv=>arg 1;ext i;whnf)
   exact Evx.pure rfl
theorem seq_dec (a b : ByteArray) : seq a b = decide (a = b) := by
 by_cases h : a = b
 ·rw [seq_iff.2 h]; simp [h]
 ·rw [seq_ne.2 h]; simp [h]
theorem bbs [Asks] : (∀ b : Bool, hold b = b) ∧ (∀ a b : ByteArray, seq a b = decide (a = b)) ∧ (∀ (α : Type) [BEq α] [LawfulBEq α] (a b : α), (a != b) = true ↔ a ≠ b) ∧ (∀ (α : Type) [BEq α] [LawfulBEq α] (a b : α), (a == b) = true ↔ a = b) ∧ (∀ (α : Type) (a b : α), (a ≠ b) = ¬ a = b) ∧ (∀ b : Bool, ((!b) = true) = (b = false)) ∧ (∀ b : Bool, ((!b) = false) = (b = true)) ∧
  (∀ (p : Prop) [Decidable p], (decide p = true) = p) ∧ (∀ (p : Prop) [Decidable p], (decide p = false) ↔ ¬ p) ∧ (∀ (p : Prop) [Decidable p], ¬¬p ↔ p) ∧ (∀ rs : List Rf, (refs rs).length = rs.length) ∧ (∀ ts : List Fm, (fms ts).length = ts.length) ∧ (∀ (α : Type) [BEq α] [LawfulBEq α] (a b : α), (a != b) = false ↔ a = b) ∧ (∀ (α : Type) [BEq α] [LawfulBEq α] (a b : α), (a == b) = false ↔ a ≠ b) :=
 ⟨hold_eq, seq_dec, fun _ _ _ _ _ => bne_iff_ne, fun _ _ _ _ _ => beq_iff_eq, fun _ _ _ => rfl, fun _ => Bool.not_eq_true' _, fun _ => Bool.not_eq_false' _, fun _ _ => decide_eq_true_eq, fun _ _ => decide_eq_false_iff_not, fun _ _ => Decidable.not_not, refs_len, fms_len, fun _ _ _ _ _ => bne_eq_false_iff_eq, fun _ _ _ _ _ => beq_eq_false_iff_ne⟩
theorem first_ev (c : UInt8) : Ev pr 75 [.int .u8 c.toNat] (.ret [.d (.bool (lowerB c))]) := by
 apply Ev.enter; intro k; (conv=>arg 1;ext i;whnf)
 repeat' (first | refine Evx.pure ?_ | (refine Evx.bool (fun h => ?_) (fun h => ?_) <;> (conv=>arg 1;ext i;whnf)))
 all_goals (refine congrArg (fun b => Out.ret [AV.d (D.bool b)]) ?_)
 all_goals rw [Bool.eq_iff_iff]
 all_goals simp only [hold_eq, seq_dec] at *
 all_goals (simp_all [lowerB])
 all_goals omega
theorem lower_ev (c : UInt8) : Ev pr 53 [.int .u8 c.toNat] (.ret [.d (.bool (lowerB c))]) := by
 apply Ev.enter; intro k; (conv=>arg 1;ext i;whnf)
 repeat' (first | refine Evx.pure ?_ | (refine Evx.bool (fun h => ?_) (fun h => ?_) <;> (conv=>arg 1;ext i;whnf)))
 all_goals (refine congrArg (fun b => Out.ret [AV.d (D.bool b)]) ?_)
 all_goals rw [Bool.eq_iff_iff]
 all_goals simp only [hold_eq, seq_dec] at *
 all_goals (simp_all [lowerB])
 all_goals omega
theorem rbinds_ev (n : Int) : Ev pr 91 [.int .i64 n] (.ret [.d (.bool (bindsB n))]) := by
 apply Ev.enter; intro k; (conv=>arg 1;ext i;whnf)
 repeat' (first | refine Evx.pure ?_ | (refine Evx.bool (fun h => ?_) (fun h => ?_) <;> (conv=>arg 1;ext i;whnf)))
 all_goals (refine congrArg (fun b => Out.ret [AV.d (D.bool b)]) ?_)
 all_goals rw [Bool.eq_iff_iff]
 all_goals simp only [hold_eq, seq_dec] at *
 all_goals (simp_all [bindsB])
 all_goals omega
theorem rest_ev (c : UInt8) : Ev pr 101 [.int .u8 c.toNat] (.ret [.d (.bool (tailB c))]) := by
 apply Ev.enter; intro k; (conv=>arg 1;ext i;whnf)
 repeat' (first | refine Evx.pure ?_ | (refine Evx.bool (fun h => ?_) (fun h => ?_) <;> (conv=>arg 1;ext i;whnf)) | (refine Evx.call (first_ev c) ?_; (conv=>arg 1;ext i;whnf)))
 all_goals (refine congrArg (fun b => Out.ret [AV.d (D.bool b)]) ?_)
 all_goals rw [Bool.eq_iff_iff]
 all_goals simp only [hold_eq, seq_dec] at *
 all_goals (simp_all [tailB])
 all_goals omega
theorem tail_ev (c : UInt8) : Ev pr 54 [.int .u8 c.toNat] (.ret [.d (.bool (tailB c))]) := by
 apply Ev.enter; intro k; (conv=>arg 1;ext i;whnf)
 repeat' (first | refine Evx.pure ?_ | (refine Evx.bool (fun h => ?_) (fun h => ?_) <;> (conv=>arg 1;ext i;whnf)) | (refine Evx.call (lower_ev c) ?_; (conv=>arg 1;ext i;whnf)))
 all_goals (refine congrArg (fun b => Out.ret [AV.d (D.bool b)]) ?_)
 all_goals rw [Bool.eq_iff_iff]
 all_goals simp only [hold_eq, seq_dec] at *
 all_goals (simp_all [tailB])
 all_goals omega
theorem bool_out {a b : Bool} (h : a = true ↔ b = true) : (Out.ret [AV.d (D.bool a)] : Out) = Out.ret [AV.d (D.bool b)] := by rw [Bool.eq_iff_iff.2 h]
end Go.Proofs.YtehkgiofchmpaaaDoor
namespace Go.Proofs.YtehkgiofchmpaaaDoor
open Go Go.Abs Go.Abs.Asks
variable [Asks]
theorem awake22_ev : Ev pr 13 [] (.ret [.d (.bool true)]) := Ev.of_run 200 fun n k => by kernel_rfl
end Go.Proofs.YtehkgiofchmpaaaDoor
namespace Go.Proofs.YtehkgiofchmpaaaDoor
open Go Go.Abs Go.Abs.Asks
set_option linter.unusedVariables false
set_option linter.unusedSimpArgs false
set_option linter.unusedSectionVars false
variable [Asks]
theorem inside_ev (t : Fm) (n : Int) (hn : 0 ≤ n) (hb : n < 2 ^ 61) : Ev pr 69 [t.d, .int .i64 n] (.ret [.d (.int .i64 (under t n))]) := by
 apply Ev.enter; intro c; (conv=>arg 1;ext i;whnf)
 refine Evx.call (rbinds_ev t.op) ?_
 (conv=>arg 1;ext i;whnf)
 (refine Evx.bool (fun h => ?_) (fun h => ?_) <;> (try simp only [bbs] at h) <;> (first | (exfalso; omega) | exact absurd trivial h | (conv=>arg 1;ext i;whnf)))
 ·refine Evx.int (n' := n + 1) (by rw [wrap_small] <;> omega) ?_
  (conv=>arg 1;ext i;whnf)
  refine Evx.pure ?_
  unfold under; simp_all
 ·refine Evx.pure ?_
  unfold under; simp_all
def limitsB (t : Fm) : Bool := decide (t.size ≤ 200) && decide (t.depth ≤ 32)
theorem limits_ev (t : Fm) (ht : t.ok) : Ev pr 35 [t.d] (.ret [.d (.bool (limitsB t))]) := by
 apply Ev.enter; intro c; (conv=>arg 1;ext i;whnf)
 repeat' (first | refine Evx.pure ?_ | (refine Evx.bool (fun h => ?_) (fun h => ?_) <;> (try simp only [bbs] at h) <;> (first | (exfalso; omega) | exact absurd trivial h | (conv=>arg 1;ext i;whnf))) | (refine Evx.call (pSize_ev t ht) ?_; (conv=>arg 1;ext i;whnf)) | (refine Evx.call (pDepth_ev t ht) ?_; (conv=>arg 1;ext i;whnf)))
 all_goals refine bool_out ?_
 all_goals try simp only [hold_eq, seq_dec] at *
 all_goals simp_all [limitsB]
 all_goals omega
end Go.Proofs.YtehkgiofchmpaaaDoor
namespace Go.Abs
open Go
set_option linter.unusedVariables false
set_option linter.unusedSimpArgs false
def numC (x y : Int) : Int := if x < y then -1 else if y < x then 1 else 0
def textC (s t : ByteArray) : Int := if Op.bytesLess s.toList t.toList = true then -1 else if (s.toList == t.toList) = true then 0 else 1
def firstC : List Int → Int
 | [] => 0
 | x :: xs => if x = 0 then firstC xs else x
def refC (a b : Rf) : Int := firstC [numC a.kind b.kind, numC a.idx b.idx, textC a.nm b.nm]
def refsC : List Rf → List Rf → Int
 | a :: «as», b :: bs => if refC a b = 0 then refsC «as» bs else refC a b
 | [], [] => 0
 | [], _ :: _ => -1
 | _ :: _, [] => 1
def nodeC (t u : Fm) : Int := firstC [numC t.op u.op, textC t.nm u.nm, refsC t.as u.as, numC t.fr u.fr, numC t.to u.to]
mutual
 def Fm.cmp : Fm → Fm → Int
  | .node o m a f t k, u => if nodeC (.node o m a f t k) u = 0 then cmps k u.ks else nodeC (.node o m a f t k) u
 def cmps : List Fm → List Fm → Int
  | x :: xs, y :: ys => if x.cmp y = 0 then cmps xs ys else x.cmp y
  | [], [] => 0
  | [], _ :: _ => -1
  | _ :: _, [] => 1
end
theorem Fm.cmp_eq (t u : Fm) : t.cmp u = if nodeC t u = 0 then cmps t.ks u.ks else nodeC t u := by
 cases t
 simp only [Fm.cmp, Fm.ks]
theorem numC_len {α β : Type} {xs : List α} {ys : List β} {i : Nat} (hx : i ≤ xs.length) (hy : i ≤ ys.length) : numC (xs.length : Int) (ys.length : Int) = numC ((xs.drop i).length : Int) ((ys.drop i).length : Int) := by
 unfold numC
 rw [List.length_drop, List.length_drop]
 repeat' split
 all_goals omega
theorem numC_self (x : Int) : numC x x = 0 := by unfold numC; simp
theorem refsC_end {«as» bs : List Rf} (h : «as» = [] ∨ bs = []) : refsC «as» bs = numC («as».length : Int) (bs.length : Int) := by
 cases «as» <;> cases bs <;> simp_all [refsC, numC] <;> omega
theorem cmps_end {«as» bs : List Fm} (h : «as» = [] ∨ bs = []) : cmps «as» bs = numC («as».length : Int) (bs.length : Int) := by
 cases «as» <;> cases bs <;> simp_all [cmps, numC] <;> omega
theorem refsC_cons (a b : Rf) («as» bs : List Rf) : refsC (a :: «as») (b :: bs) = if refC a b = 0 then refsC «as» bs else refC a b := by simp only [refsC]
theorem cmps_cons (a b : Fm) («as» bs : List Fm) : cmps (a :: «as») (b :: bs) = if a.cmp b = 0 then cmps «as» bs else a.cmp b := by simp only [cmps]
theorem bytesLess_self : ∀ l : List UInt8, Op.bytesLess l l = false
 | [] => by simp [Op.bytesLess]
 | c :: l => by simp [Op.bytesLess, bytesLess_self l]
theorem textC_self (s : ByteArray) : textC s s = 0 := by unfold textC; rw [bytesLess_self]; simp
theorem refC_self (r : Rf) : refC r r = 0 := by simp [refC, firstC, numC_self, textC_self]
theorem refsC_self : ∀ rs : List Rf, refsC rs rs = 0
 | [] => rfl
 | r :: rs => by rw [refsC_cons, refC_self, refsC_self rs]; simp
theorem nodeC_self (t : Fm) : nodeC t t = 0 := by simp [nodeC, firstC, numC_self, textC_self, refsC_self]
mutual
 theorem cmp_self : ∀ t : Fm, t.cmp t = 0
  | .node o m a f t k => by
   rw [Fm.cmp_eq, nodeC_self, if_pos rfl]
   exact cmps_self k
 theorem cmps_self : ∀ ts : List Fm, cmps ts ts = 0
  | [] => by simp [cmps]
  | t :: ts => by rw [cmps_cons, cmp_self t, if_pos rfl]; exact cmps_self ts
end
def zeroBox : Box := ⟨[.d (.int .i64 0), .d (.str ⟨#[]⟩), .d .nils, .d (.int .i64 0), .d (.int .i64 0), .d .nils], false, (0, 0)⟩
theorem formeds_get : ∀ {ts : List Fm} {i : Nat} {t : Fm} {n : Int}, formeds ts n = true → ts[i]? = some t → t.formed n = true
 | x :: xs, 0, t, n, h, hi => by
  simp only [formeds, Bool.and_eq_true] at h
  simp at hi; subst hi; exact h.1
 | x :: xs, i + 1, t, n, h, hi => by
  simp only [formeds, Bool.and_eq_true] at h
  exact formeds_get h.2 (by simpa using hi)
section
variable (o : Int) (m : ByteArray) (a : List Rf) (f e : Int) (k : List Fm)
theorem as_node : (Fm.node o m a f e k).as = a := rfl
end
end Go.Abs
namespace Go.Abs
open Go
set_option linter.unusedVariables false
set_option linter.unusedSimpArgs false
inductive Rd (α : Type) where
 | ok (v : α) (n : Nat)
 | no (n : Nat)
def Rd.up {α : Type} (k : Nat) : Rd α → Rd α
 | .ok v n => .ok v (k + n)
 | .no n => .no (k + n)
def thenP {α β : Type} (p : Rd α) (f : α → List UInt8 → Rd β) (l : List UInt8) : Rd β := match p with
 | .ok v n => (f v (l.drop n)).up n
 | .no n => .no n
def mapP {α β : Type} (f : α → β) : Rd α → Rd β
 | .ok v n => .ok (f v) n
 | .no n => .no n
def digB (c : UInt8) : Bool := decide (48 ≤ (c.toNat : Int)) && decide ((c.toNat : Int) ≤ 57)
def bts (l : List UInt8) : ByteArray := ⟨l.toArray⟩
def litS : List UInt8 → List UInt8 → Rd Unit
 | [], _ => .ok () 0
 | _ :: _, [] => .no 0
 | c :: w, d :: l => if d = c then (litS w l).up 1 else .no 0
def symS : List UInt8 → Rd (List UInt8)
 | [] => .no 0
 | c :: l => if lowerB c then .ok (c :: l.takeWhile tailB) (1 + (l.takeWhile tailB).length) else .no 0
def numGo (most : Int) : Int → List UInt8 → Rd Int
 | n, [] => .ok n 0
 | n, d :: l => if digB d = true ∧ n * 10 + ((d.toNat : Int) - 48) ≤ most then (numGo most (n * 10 + ((d.toNat : Int) - 48)) l).up 1 else .ok n 0
def numS (most : Int) : List UInt8 → Rd Int
 | [] => .no 0
 | d :: l => if digB d then (if d = 48 then .ok 0 1 else (numGo most ((d.toNat : Int) - 48) l).up 1) else .no 0
def hd (l : List UInt8) : Nat := match l with
 | [] => 0
 | c :: _ => c.toNat
def endS (l : List UInt8) : Rd Int := if hd l = 45 then mapP (fun _ => -1) (litS [45, 49] l) else numS 1439999999 l
def refS (d : Int) (l : List UInt8) : Rd Rf :=
 if hd l = 35 then (mapP (fun n => (⟨1, n, ⟨#[]⟩⟩ : Rf)) (numS (1099511627775 + d) (l.drop 1))).up 1
 else if hd l = 64 then (mapP (fun n => (⟨3, n, ⟨#[]⟩⟩ : Rf)) (numS 1439999999 (l.drop 1))).up 1
 else if 48 ≤ hd l ∧ hd l ≤ 57 then mapP (fun n => (⟨4, n, ⟨#[]⟩⟩ : Rf)) (numS 1099511627776 l)
 else mapP (fun s => (⟨2, 0, bts s⟩ : Rf)) (symS l)
def argsS (d : Int) : Nat → List UInt8 → Rd (List Rf)
 | 0, _ => .no 0
 | k + 1, l => thenP (refS d l) (fun r l => if hd l ≠ 44 ∨ k = 0 then mapP (fun _ => [r]) (litS [41] l)
   else thenP (litS [44, 32] l) (fun _ l => mapP (fun rs => r :: rs) (argsS d k l)) l) l
def atomS (d : Int) (l : List UInt8) : Rd Fm :=
 thenP (symS l) (fun s l => thenP (litS [40] l) (fun _ l => mapP (fun «as» => Fm.node 3 (bts s) «as» 0 0 []) (argsS d 3 l)) l) l
def words : List (Int × List UInt8) := [(1, [84, 82, 85, 69]), (2, [70, 65, 76, 83, 69]), (3, []), (4, [78, 79, 84]), (5, [65, 78, 68]), (6, [79, 82]), (7, [73, 77, 80, 76, 73, 69, 83]), (8, [65, 76, 76]), (9, [83, 79, 77, 69]), (10, [68, 85, 82, 73, 78, 71]), (11, [79, 66, 76, 73, 71, 69, 68]), (12, [80, 69, 82, 77, 73, 84, 84, 69, 68])]
def wordOf (op : Int) : List UInt8 := ((words.find? fun p => p.1 = op).map (·.2)).getD []
def lcp : List UInt8 → List UInt8 → Nat
 | c :: w, d :: l => if d = c then lcp w l + 1 else 0
 | _, _ => 0
def opGo : List (Int × List UInt8) → Nat → List UInt8 → Rd Int
 | [], best, _ => .no best
 | p :: ws, best, l => if lcp p.2 l = p.2.length ∧ 0 < lcp p.2 l then .ok p.1 (lcp p.2 l) else opGo ws (max best (lcp p.2 l)) l
def opS (l : List UInt8) : Rd Int := opGo words 0 l
mutual
 def fmS : Nat → Int → List UInt8 → Rd Fm
  | 0, _, _ => .no 0
  | F + 1, d, l => if (97 ≤ hd l ∧ hd l ≤ 122) then atomS d l else
   thenP (opS l) (fun op l =>
    if op = 1 ∨ op = 2 then .ok (.node op ⟨#[]⟩ [] 0 0 []) 0
    else if op = 8 ∨ op = 9 then thenP (litS [32] l) (fun _ l => thenP (symS l) (fun s l => bodyS F (d + 1) op (bts s) 0 0 1 l) l) l
    else if op = 10 then thenP (litS [32] l) (fun _ l => thenP (endS l) (fun a l => thenP (litS [32] l) (fun _ l => thenP (endS l) (fun b l => bodyS F d op ⟨#[]⟩ a b 1 l) l) l) l) l
    else if op = 7 then bodyS F d op ⟨#[]⟩ 0 0 2 l
    else if op = 5 ∨ op = 6 then bodyS F d op ⟨#[]⟩ 0 0 0 l
    else bodyS F d op ⟨#[]⟩ 0 0 1 l) l
 def bodyS : Nat → Int → Int → ByteArray → Int → Int → Nat → List UInt8 → Rd Fm
  | 0, _, _, _, _, _, _, _ => .no 0
  | F + 1, d, op, nm, a, b, k, l => thenP (litS [40] l) (fun _ l => mapP (fun ks => Fm.node op nm [] a b ks) (match k with
   | 0 => if hd l = 41 then .ok [] 1 else itemsS F d l
   | 1 => thenP (fmS F d l) (fun f l => mapP (fun _ => [f]) (litS [41] l)) l
   | _ => thenP (fmS F d l) (fun f l => thenP (litS [44, 32] l) (fun _ l => thenP (fmS F d l) (fun g l => mapP (fun _ => [f, g]) (litS [41] l)) l) l) l)) l
 def itemsS : Nat → Int → List UInt8 → Rd (List Fm)
  | 0, _, _ => .no 0
  | F + 1, d, l => thenP (fmS F d l) (fun f l => if hd l ≠ 44 then mapP (fun _ => [f]) (litS [41] l)
   else thenP (litS [44, 32] l) (fun _ l => mapP (fun fs => f :: fs) (itemsS F d l)) l) l
end
def zeroFm : Fm := .node 0 ⟨#[]⟩ [] 0 0 []
def parseS (l : List UInt8) : Fm × Int × Int := match fmS (4 * l.length + 4) 0 l with
 | .no n => (zeroFm, n, 3)
 | .ok f n => if n < l.length then (zeroFm, n, 3) else if f.size ≤ 200 ∧ f.depth ≤ 32 then (f, 0, 0) else (zeroFm, 0, 2)
end Go.Abs
namespace Go.Abs
open Go
set_option linter.unusedVariables false
set_option linter.unusedSimpArgs false
def Rd.at {α : Type} : Rd α → Nat
 | .ok _ n => n
 | .no n => n
theorem up_at {α : Type} (k : Nat) (x : Rd α) : (x.up k).at = k + x.at := by cases x <;> rfl
theorem map_at {α β : Type} (f : α → β) (x : Rd α) : (mapP f x).at = x.at := by cases x <;> rfl
theorem thenOk {α β : Type} {p : Rd α} {f : α → List UInt8 → Rd β} {l : List UInt8} {v : α} {n : Nat} (h : p = .ok v n) : thenP p f l = (f v (l.drop n)).up n := by rw [h]; rfl
theorem thenNo {α β : Type} {p : Rd α} {f : α → List UInt8 → Rd β} {l : List UInt8} {n : Nat} (h : p = .no n) : thenP p f l = .no n := by rw [h]; rfl
def agree (l l' : List UInt8) (n : Nat) : Prop := n ≤ l.length ∧ l'.take n = l.take n ∧ (l'[n]? = l[n]? ∨ l'[n]? = none)
theorem agree.less {l l' : List UInt8} {n m : Nat} (h : agree l l' (n + m)) : agree l l' n := by
 obtain ⟨h1, h2, h3⟩ := h
 refine ⟨by omega, ?_, ?_⟩
 ·have := congrArg (List.take n) h2
  rwa [List.take_take, List.take_take, Nat.min_eq_left (by omega)] at this
 ·by_cases hm : m = 0
  ·subst hm; exact h3
  ·left
   have := congrArg (·[n]?) h2
   simp only [List.getElem?_take, show n < n + m by omega, if_true] at this
   exact this
theorem agree.drop {l l' : List UInt8} {n m : Nat} (h : agree l l' (n + m)) : agree (l.drop n) (l'.drop n) m := by
 obtain ⟨h1, h2, h3⟩ := h
 refine ⟨by rw [List.length_drop]; omega, ?_, ?_⟩
 ·have := congrArg (List.drop n) h2
  rwa [List.drop_take, List.drop_take, Nat.add_sub_cancel_left] at this
 ·rw [List.getElem?_drop, List.getElem?_drop]; exact h3
theorem agree.cons {d : UInt8} {l l' : List UInt8} {k : Nat} (h : agree (d :: l) l' (1 + k)) : ∃ l'', l' = d :: l'' ∧ agree l l'' k := by
 cases l' with
 | nil =>
  have := h.2.1
  rw [Nat.add_comm] at this
  simp at this
 | cons e l'' =>
  have h2 := h.2.1
  rw [Nat.add_comm, List.take_succ_cons, List.take_succ_cons] at h2
  obtain ⟨rfl, _⟩ := List.cons.inj h2
  exact ⟨l'', rfl, h.drop⟩
theorem agree.zero {l l' : List UInt8} (h : agree l l' 0) : l' = [] ∨ ∃ d l1 l2, l = d :: l1 ∧ l' = d :: l2 := by
 obtain ⟨_, _, h3⟩ := h
 cases l' with
 | nil => exact .inl rfl
 | cons e l'' =>
  right
  cases l with
  | nil => simp at h3
  | cons d l => simp at h3; exact ⟨d, l, l'', rfl, by rw [h3]⟩
theorem agree.nil {l' : List UInt8} {n : Nat} (h : agree [] l' n) : l' = [] ∧ n = 0 := by
 have h1 := h.1
 simp at h1
 subst h1
 rcases h.zero with h | ⟨d, l1, l2, h, _⟩
 ·exact ⟨h, rfl⟩
 ·cases h
theorem agree.hd {l l' : List UInt8} {n : Nat} (h : agree l l' n) : hd l' = hd l ∨ (l' = [] ∧ n = 0) := by
 cases n with
 | zero =>
  rcases h.zero with h | ⟨d, l1, l2, h, h'⟩
  ·exact .inr ⟨h, rfl⟩
  ·left; rw [h, h']; rfl
 | succ n =>
  left
  cases l with
  | nil => exact absurd h.nil.2 (by omega)
  | cons d l =>
   rw [Nat.add_comm] at h
   obtain ⟨l'', rfl, _⟩ := h.cons
   rfl
def Loc {α : Type} (x y : Rd α) (l l' : List UInt8) : Prop := agree l l' x.at → y = x
theorem Loc.map {α β : Type} {x y : Rd α} {l l' : List UInt8} (f : α → β) (h : Loc x y l l') : Loc (mapP f x) (mapP f y) l l' := fun ha => by
 rw [map_at] at ha; rw [h ha]
theorem Loc.then {α β : Type} {p p' : Rd α} {f f' : α → List UInt8 → Rd β} {l l' : List UInt8} (h : Loc p p' l l')
  (k : ∀ v n, p = .ok v n → agree l l' n → Loc (f v (l.drop n)) (f' v (l'.drop n)) (l.drop n) (l'.drop n)) : Loc (thenP p f l) (thenP p' f' l') l l' := by
 intro ha
 cases p with
 | no n =>
  have e : p' = .no n := h ha
  rw [thenNo e]; rfl
 | ok v n =>
  have ha2 : agree l l' (n + (f v (l.drop n)).at) := by
   have := ha
   rwa [thenOk rfl, up_at] at this
  have e : p' = .ok v n := h ha2.less
  rw [thenOk e, thenOk rfl, k v n rfl ha2.less ha2.drop]
theorem Loc.up {α : Type} {x y : Rd α} {d : UInt8} {l l' : List UInt8} (h : Loc x y l l') : Loc (x.up 1) (y.up 1) (d :: l) (d :: l') := fun ha => by
 rw [up_at] at ha
 have := ha.drop
 rw [h this]
theorem lit_loc : ∀ (w l l' : List UInt8), Loc (litS w l) (litS w l') l l'
 | [], l, l', ha => by simp [litS]
 | c :: w, [], l', ha => by rw [ha.nil.1]
 | c :: w, d :: l, l', ha => by
  simp only [litS] at ha ⊢
  split at ha
  ·rename_i hd
   rw [up_at] at ha
   obtain ⟨l'', rfl, h2⟩ := ha.cons
   simp only [hd, litS, if_true]
   rw [lit_loc w l l'' h2]
  ·rename_i hd
   rcases ha.zero with h | ⟨e, l1, l2, h, h'⟩
   ·subst h; simp [litS, hd]
   ·cases h; subst h'; simp [litS, hd]
theorem symS_cons (c : UInt8) (l : List UInt8) : symS (c :: l) = if lowerB c then .ok (c :: l.takeWhile tailB) (1 + (l.takeWhile tailB).length) else .no 0 := rfl
theorem numS_cons (most : Int) (d : UInt8) (l : List UInt8) : numS most (d :: l) = if digB d then (if d = 48 then .ok 0 1 else (numGo most ((d.toNat : Int) - 48) l).up 1) else .no 0 := rfl
theorem tw_loc (p : UInt8 → Bool) : ∀ l l' : List UInt8, agree l l' (l.takeWhile p).length → l'.takeWhile p = l.takeWhile p
 | [], l', ha => by rw [ha.nil.1]
 | d :: l, l', ha => by
  rw [List.takeWhile_cons] at ha ⊢
  split at ha
  ·rename_i hd
   rw [List.length_cons, Nat.add_comm] at ha
   obtain ⟨l'', rfl, h2⟩ := ha.cons
   rw [List.takeWhile_cons, if_pos hd, if_pos hd, tw_loc p l l'' h2]
  ·rename_i hd
   rcases ha.zero with h | ⟨e, l1, l2, h, h'⟩
   ·subst h; simp [hd]
   ·cases h; subst h'; rw [List.takeWhile_cons, if_neg hd, if_neg hd]
theorem sym_loc (l l' : List UInt8) : Loc (symS l) (symS l') l l' := by
 intro ha
 cases l with
 | nil => rw [ha.nil.1]
 | cons c l =>
  rw [symS_cons] at ha ⊢
  split at ha
  ·rename_i hc
   obtain ⟨l'', rfl, h2⟩ := ha.cons
   rw [symS_cons, if_pos hc, if_pos hc, tw_loc tailB l l'' h2]
  ·rename_i hc
   rw [if_neg hc]
   rcases ha.zero with h | ⟨e, l1, l2, h, h'⟩
   ·subst h; rfl
   ·cases h; subst h'; rw [symS_cons, if_neg hc]
theorem numGo_loc (most : Int) : ∀ (l l' : List UInt8) (n : Int), Loc (numGo most n l) (numGo most n l') l l'
 | [], l', n, ha => by rw [ha.nil.1]
 | d :: l, l', n, ha => by
  simp only [numGo] at ha ⊢
  split at ha
  ·rename_i hc
   rw [up_at] at ha
   obtain ⟨l'', rfl, h2⟩ := ha.cons
   rw [numGo, if_pos hc, if_pos hc, numGo_loc most l l'' _ h2]
  ·rename_i hc
   rw [if_neg hc]
   rcases ha.zero with h | ⟨e, l1, l2, h, h'⟩
   ·subst h; rfl
   ·cases h; subst h'; rw [numGo, if_neg hc]
theorem num_loc (most : Int) (l l' : List UInt8) : Loc (numS most l) (numS most l') l l' := by
 intro ha
 cases l with
 | nil => rw [ha.nil.1]
 | cons d l =>
  rw [numS_cons] at ha ⊢
  split at ha
  ·rename_i hc
   split at ha
   ·rename_i h0
    obtain ⟨l'', rfl, h2⟩ := ha.cons (k := 0)
    rw [numS_cons, if_pos hc, if_pos h0, if_pos hc, if_pos h0]
   ·rename_i h0
    rw [up_at] at ha
    obtain ⟨l'', rfl, h2⟩ := ha.cons
    rw [numS_cons, if_pos hc, if_neg h0, if_pos hc, if_neg h0, numGo_loc most l l'' _ h2]
  ·rename_i hc
   rw [if_neg hc]
   rcases ha.zero with h | ⟨e, l1, l2, h, h'⟩
   ·subst h; rfl
   ·cases h; subst h'; rw [numS_cons, if_neg hc]
theorem hd_pos {l : List UInt8} {c : Nat} (h : hd l = c) (hc : 0 < c) : ∃ d r, l = d :: r ∧ d.toNat = c := by
 cases l with
 | nil => simp [hd] at h; omega
 | cons d r => exact ⟨d, r, rfl, h⟩
theorem u8_eq {d : UInt8} {c : UInt8} (h : d.toNat = c.toNat) : d = c := UInt8.toNat_inj.1 h
theorem lit_pos {c d : UInt8} {w l : List UInt8} (h : d = c) : 1 ≤ (litS (c :: w) (d :: l)).at := by
 simp only [litS, if_pos h, up_at]; omega
theorem num_pos {most : Int} {d : UInt8} {l : List UInt8} (h : digB d = true) : 1 ≤ (numS most (d :: l)).at := by
 simp only [numS, if_pos h]
 split
 ·exact Nat.le_refl _
 ·rw [up_at]; omega
theorem dig_hd {d : UInt8} : digB d = true ↔ 48 ≤ d.toNat ∧ d.toNat ≤ 57 := by
 unfold digB; simp only [Bool.and_eq_true, decide_eq_true_eq]; omega
theorem end_loc (l l' : List UInt8) : Loc (endS l) (endS l') l l' := by
 intro ha
 unfold endS at ha ⊢
 by_cases h : hd l = 45
 ·rw [if_pos h] at ha ⊢
  rcases ha.hd with e | ⟨e, e2⟩
  ·rw [if_pos (by rw [e]; exact h)]
   exact Loc.map _ (lit_loc _ _ _) ha
  ·obtain ⟨d, r, rfl, hd⟩ := hd_pos h (by omega)
   rw [map_at] at e2
   have := lit_pos (c := 45) (w := [49]) (l := r) (u8_eq (c := 45) hd)
   omega
 ·rw [if_neg h] at ha ⊢
  have : ¬ hd l' = 45 := by
   rcases ha.hd with e | ⟨e, _⟩
   ·rw [e]; exact h
   ·subst e; simp [hd]
  rw [if_neg this]
  exact num_loc _ _ _ ha
theorem ref_loc (d : Int) (l l' : List UInt8) : Loc (refS d l) (refS d l') l l' := by
 intro ha
 unfold refS at ha ⊢
 by_cases h1 : hd l = 35
 ·rw [if_pos h1] at ha ⊢
  obtain ⟨c, r, rfl, hc⟩ := hd_pos h1 (by omega)
  rw [up_at] at ha
  obtain ⟨l'', rfl, h2⟩ := ha.cons
  rw [if_pos (show hd (c :: l'') = 35 from hc)]
  exact congrArg (Rd.up 1) (Loc.map _ (num_loc _ r l'') h2)
 ·rw [if_neg h1] at ha ⊢
  by_cases h2 : hd l = 64
  ·rw [if_pos h2] at ha ⊢
   obtain ⟨c, r, rfl, hc⟩ := hd_pos h2 (by omega)
   rw [up_at] at ha
   obtain ⟨l'', rfl, h2'⟩ := ha.cons
   rw [if_neg (by simp only [hd]; omega), if_pos (show hd (c :: l'') = 64 from hc)]
   exact congrArg (Rd.up 1) (Loc.map _ (num_loc _ r l'') h2')
  ·rw [if_neg h2] at ha ⊢
   by_cases h3 : 48 ≤ hd l ∧ hd l ≤ 57
   ·rw [if_pos h3] at ha ⊢
    rcases ha.hd with e | ⟨e, e2⟩
    ·rw [e, if_neg h1, if_neg h2, if_pos h3]
     exact Loc.map _ (num_loc _ _ _) ha
    ·obtain ⟨c, r, rfl, hc⟩ := hd_pos (c := hd l) rfl (by omega)
     rw [map_at] at e2
     have := num_pos (most := 1099511627776) (l := r) (dig_hd.2 (by simpa [hd] using h3))
     omega
   ·rw [if_neg h3] at ha ⊢
    have : ¬ hd l' = 35 ∧ ¬ hd l' = 64 ∧ ¬ (48 ≤ hd l' ∧ hd l' ≤ 57) := by
     rcases ha.hd with e | ⟨e, _⟩
     ·rw [e]; exact ⟨h1, h2, h3⟩
     ·subst e; simp [hd]
    rw [if_neg this.1, if_neg this.2.1, if_neg this.2.2]
    exact Loc.map _ (sym_loc _ _) ha
theorem args_loc (d : Int) : ∀ (k : Nat) (l l' : List UInt8), Loc (argsS d k l) (argsS d k l') l l'
 | 0, l, l', _ => rfl
 | k + 1, l, l', ha => by
  unfold argsS at ha ⊢
  refine Loc.then (ref_loc d l l') (fun r n hr hn ha => ?_) ha
  by_cases h : hd (l.drop n) ≠ 44 ∨ k = 0
  ·rw [if_pos h] at ha ⊢
   have : hd (l'.drop n) ≠ 44 ∨ k = 0 := by
    rcases h with h | h
    ·left
     rcases ha.hd with e | ⟨e, _⟩
     ·rw [e]; exact h
     ·rw [e]; simp [hd]
    ·exact .inr h
   rw [if_pos this]
   exact Loc.map _ (lit_loc _ _ _) ha
  ·rw [if_neg h] at ha ⊢
   have h44 : hd (l.drop n) = 44 := Decidable.not_not.1 (fun h' => h (.inl h'))
   have : ¬ (hd (l'.drop n) ≠ 44 ∨ k = 0) := by
    rcases ha.hd with e | ⟨e, e2⟩
    ·rw [e]; exact h
    ·exfalso
     obtain ⟨c, r, hr, hc⟩ := hd_pos h44 (by omega)
     rw [hr] at e2
     have e3 : litS [44, 32] (c :: r) = (litS [32] r).up 1 := by simp only [litS]; rw [if_pos (u8_eq (c := 44) hc)]
     cases h4 : litS [44, 32] (c :: r) with
     | no m =>
      rw [thenNo h4] at e2
      have : (Rd.no m : Rd Unit).at = 1 + (litS [32] r).at := by rw [← h4, e3, up_at]
      simp only [Rd.at] at this e2
      omega
     | ok u m =>
      rw [thenOk h4, up_at] at e2
      have : (Rd.ok u m : Rd Unit).at = 1 + (litS [32] r).at := by rw [← h4, e3, up_at]
      simp only [Rd.at] at this
      omega
   rw [if_neg this]
   exact Loc.then (lit_loc _ _ _) (fun _ m _ _ => Loc.map _ (args_loc d k _ _)) ha
theorem atom_loc (d : Int) (l l' : List UInt8) : Loc (atomS d l) (atomS d l') l l' := by
 unfold atomS
 exact Loc.then (sym_loc _ _) fun s n _ _ => Loc.then (lit_loc _ _ _) fun _ m _ _ => Loc.map _ (args_loc d 3 _ _)
end Go.Abs
namespace Go.Abs
open Go
set_option linter.unusedVariables false
set_option linter.unusedSimpArgs false
theorem lcp_le : ∀ w l : List UInt8, lcp w l ≤ w.length ∧ lcp w l ≤ l.length
 | [], l => by simp [lcp]
 | c :: w, [] => by simp [lcp]
 | c :: w, d :: l => by
  simp only [lcp]
  split
  ·have := lcp_le w l; simp only [List.length_cons]; omega
  ·simp
theorem lcp_loc : ∀ (w l l' : List UInt8) (n : Nat), agree l l' n → lcp w l ≤ n → lcp w l' = lcp w l
 | [], l, l', n, _, _ => by simp [lcp]
 | c :: w, [], l', n, ha, _ => by rw [ha.nil.1]
 | c :: w, d :: l, l', n, ha, hn => by
  simp only [lcp] at hn ⊢
  cases n with
  | zero =>
   split at hn
   ·omega
   ·rename_i hd
    rcases ha.zero with h | ⟨e, l1, l2, h, h'⟩
    ·subst h; simp [lcp, hd]
    ·cases h; subst h'; simp [lcp, hd]
  | succ n =>
   rw [Nat.add_comm] at ha
   obtain ⟨l'', rfl, h2⟩ := ha.cons
   simp only [lcp]
   split
   ·rename_i hd
    rw [if_pos hd] at hn
    rw [lcp_loc w l l'' n h2 (by omega)]
   ·rfl
def full (w l : List UInt8) : Prop := lcp w l = w.length ∧ 0 < lcp w l
instance (w l : List UInt8) : Decidable (full w l) := inferInstanceAs (Decidable (_ ∧ _))
theorem full_pre : ∀ {w l : List UInt8}, lcp w l = w.length → l.take w.length = w
 | [], l, _ => rfl
 | c :: w, [], h => by simp [lcp] at h
 | c :: w, d :: l, h => by
  simp only [lcp, List.length_cons] at h
  split at h
  ·rename_i hd
   rw [List.length_cons, List.take_succ_cons, full_pre (w := w) (l := l) (by omega), hd]
  ·omega
theorem opGo_ok : ∀ (ws : List (Int × List UInt8)) (best : Nat) (l : List UInt8) (op : Int) (n : Nat), opGo ws best l = .ok op n → ∃ («as» bs : List (Int × List UInt8)) (w : List UInt8), ws = «as» ++ (op, w) :: bs ∧ full w l ∧ n = w.length ∧ ∀ p ∈ «as», ¬ full p.2 l
 | [], best, l, op, n, h => by simp [opGo] at h
 | p :: ws, best, l, op, n, h => by
  simp only [opGo] at h
  split at h
  ·rename_i hc
   cases h
   exact ⟨[], ws, p.2, rfl, hc, hc.1, by simp⟩
  ·rename_i hc
   obtain ⟨«as», bs, w, e, h1, h2, h3⟩ := opGo_ok ws _ l op n h
   refine ⟨p :: «as», bs, w, by rw [e]; rfl, h1, h2, fun q hq => ?_⟩
   rcases List.mem_cons.1 hq with rfl | hq
   ·exact hc
   ·exact h3 q hq
theorem opGo_mk : ∀ («as» bs : List (Int × List UInt8)) (best : Nat) (l : List UInt8) (op : Int) (w : List UInt8), full w l → (∀ p ∈ «as», ¬ full p.2 l) → opGo («as» ++ (op, w) :: bs) best l = .ok op w.length
 | [], bs, best, l, op, w, hf, _ => by
  simp only [List.nil_append, opGo]
  rw [if_pos (show lcp w l = w.length ∧ 0 < lcp w l from hf), hf.1]
 | p :: «as», bs, best, l, op, w, hf, ha => by
  simp only [List.cons_append, opGo]
  rw [if_neg (show ¬ (lcp p.2 l = p.2.length ∧ 0 < lcp p.2 l) from ha p (by simp))]
  exact opGo_mk «as» bs _ l op w hf fun q hq => ha q (by simp [hq])
theorem opGo_no : ∀ (ws : List (Int × List UInt8)) (best : Nat) (l : List UInt8) (n : Nat), opGo ws best l = .no n → best ≤ n ∧ ∀ p ∈ ws, lcp p.2 l ≤ n
 | [], best, l, n, h => by simp [opGo] at h; subst h; simp
 | p :: ws, best, l, n, h => by
  simp only [opGo] at h
  split at h
  ·cases h
  ·have := opGo_no ws _ l n h
   refine ⟨by omega, fun q hq => ?_⟩
   rcases List.mem_cons.1 hq with rfl | hq
   ·omega
   ·exact this.2 q hq
theorem opGo_same : ∀ (ws : List (Int × List UInt8)) (best : Nat) (l l' : List UInt8), (∀ p ∈ ws, lcp p.2 l' = lcp p.2 l) → opGo ws best l' = opGo ws best l
 | [], best, l, l', _ => rfl
 | p :: ws, best, l, l', h => by
  simp only [opGo]
  rw [h p (by simp), opGo_same ws _ l l' fun q hq => h q (by simp [hq])]
theorem words_free : ∀ p ∈ words, ∀ q ∈ words, p.2 ≠ [] → q.2.take p.2.length = p.2 → p = q := by decide
theorem op_ok {l : List UInt8} {op : Int} {n : Nat} (h : opS l = .ok op n) : ∃ w, (op, w) ∈ words ∧ full w l ∧ n = w.length := by
 obtain ⟨«as», bs, w, e, h1, h2, h3⟩ := opGo_ok _ _ _ _ _ h
 exact ⟨w, by rw [e]; simp, h1, h2⟩
theorem op_mk {l w : List UInt8} {op : Int} (hw : (op, w) ∈ words) (hf : full w l) : opS l = .ok op w.length := by
 obtain ⟨«as», bs, e⟩ := List.append_of_mem hw
 have nf : ∀ p ∈ «as», ¬ full p.2 l := by
  intro p hp hfp
  have hpw : p ∈ words := by rw [e]; simp [hp]
  have hne : ∀ {w : List UInt8}, full w l → w ≠ [] := fun hf h => by subst h; simp [full, lcp] at hf
  have h1 := full_pre hfp.1
  have h2 := full_pre hf.1
  have : p = (op, w) := by
   by_cases hl : p.2.length ≤ w.length
   ·refine words_free p hpw (op, w) hw (hne hfp) ?_
    have := congrArg (List.take p.2.length) h2
    rw [List.take_take, Nat.min_eq_left hl, h1] at this
    exact this.symm
   ·refine (words_free (op, w) hw p hpw (hne hf) ?_).symm
    have := congrArg (List.take w.length) h1
    rw [List.take_take, Nat.min_eq_left (by omega), h2] at this
    exact this.symm
  subst this
  have nd : words.Nodup := by decide
  rw [e] at nd
  have := (List.nodup_append.1 nd).2.2 _ hp _ (List.mem_cons_self ..)
  exact this rfl
 unfold opS
 rw [e]
 exact opGo_mk «as» bs 0 l op w hf nf
theorem op_loc (l l' : List UInt8) : Loc (opS l) (opS l') l l' := by
 intro ha
 cases h : opS l with
 | no n =>
  rw [h] at ha
  have := opGo_no _ _ _ _ h
  rw [← h]
  exact opGo_same _ _ _ _ fun p hp => lcp_loc p.2 l l' n ha (this.2 p hp)
 | ok op n =>
  rw [h] at ha
  obtain ⟨w, hw, hf, rfl⟩ := op_ok h
  refine op_mk hw ?_
  have e := lcp_loc w l l' w.length ha (by have := (lcp_le w l).1; omega)
  exact ⟨by rw [e]; exact hf.1, by rw [e]; exact hf.2⟩
theorem words_two : ∀ p ∈ words, p.2 ≠ [] → 2 ≤ p.2.length := by decide
theorem op_two {l : List UInt8} {op : Int} {n : Nat} (h : opS l = .ok op n) : 2 ≤ n ∧ n ≤ l.length := by
 obtain ⟨w, hw, hf, rfl⟩ := op_ok h
 refine ⟨words_two _ hw (fun e => ?_), ?_⟩
 ·simp only at e; subst e; simp [full, lcp] at hf
 ·have := (lcp_le w l).2; have := hf.1; omega
theorem lit_len : ∀ w l : List UInt8, (litS w l).at ≤ l.length ∧ ∀ u n, litS w l = .ok u n → n = w.length
 | [], l => by simp only [litS]; exact ⟨Nat.zero_le _, fun u n h => by cases h; rfl⟩
 | c :: w, [] => by simp only [litS]; exact ⟨Nat.le_refl _, fun u n h => by cases h⟩
 | c :: w, d :: l => by
  simp only [litS]
  have := lit_len w l
  split
  ·rw [up_at]
   refine ⟨by simp only [List.length_cons]; omega, fun u n h => ?_⟩
   cases hl : litS w l with
   | ok v m => rw [hl] at h; cases h; rw [this.2 _ m hl, List.length_cons]; omega
   | no m => rw [hl] at h; cases h
  ·exact ⟨by simp [Rd.at], fun u n h => by cases h⟩
theorem then_len {α β : Type} {p : Rd α} {f : α → List UInt8 → Rd β} {l : List UInt8} (h : p.at ≤ l.length) (k : ∀ v n, p = .ok v n → (f v (l.drop n)).at ≤ (l.drop n).length) : (thenP p f l).at ≤ l.length := by
 cases p with
 | no n => exact h
 | ok v n =>
  rw [thenOk rfl, up_at]
  have := k v n rfl
  rw [List.length_drop] at this
  have h : n ≤ l.length := h
  omega
theorem tw_len (p : UInt8 → Bool) (l : List UInt8) : (l.takeWhile p).length ≤ l.length := (List.takeWhile_prefix p).length_le
theorem sym_len (l : List UInt8) : (symS l).at ≤ l.length ∧ ∀ s n, symS l = .ok s n → n = s.length ∧ 1 ≤ n := by
 cases l with
 | nil => exact ⟨Nat.le_refl _, fun s n h => by cases h⟩
 | cons c l =>
  rw [symS_cons]
  have := tw_len tailB l
  split
  ·exact ⟨by simp only [Rd.at, List.length_cons]; omega, fun s n h => by cases h; simp only [List.length_cons]; omega⟩
  ·exact ⟨by simp [Rd.at], fun s n h => by cases h⟩
theorem numGo_len (most : Int) : ∀ (l : List UInt8) (n : Int), (numGo most n l).at ≤ l.length
 | [], n => Nat.le_refl _
 | d :: l, n => by
  simp only [numGo]
  split
  ·rw [up_at]; have := numGo_len most l (n * 10 + ((d.toNat : Int) - 48)); simp only [List.length_cons]; omega
  ·simp [Rd.at]
theorem numGo_ok (most : Int) : ∀ (l : List UInt8) (n : Int), ∃ v k, numGo most n l = .ok v k
 | [], n => ⟨_, _, rfl⟩
 | d :: l, n => by
  simp only [numGo]
  split
  ·obtain ⟨v, k, h⟩ := numGo_ok most l (n * 10 + ((d.toNat : Int) - 48))
   rw [h]; exact ⟨_, _, rfl⟩
  ·exact ⟨_, _, rfl⟩
theorem num_len (most : Int) (l : List UInt8) : (numS most l).at ≤ l.length ∧ ∀ v n, numS most l = .ok v n → 1 ≤ n := by
 cases l with
 | nil => exact ⟨Nat.le_refl _, fun s n h => by cases h⟩
 | cons d l =>
  rw [numS_cons]
  split
  ·split
   ·exact ⟨by simp [Rd.at], fun v n h => by cases h; exact Nat.le_refl _⟩
   ·rw [up_at]
    have := numGo_len most l ((d.toNat : Int) - 48)
    refine ⟨by simp only [List.length_cons]; omega, fun v n h => ?_⟩
    obtain ⟨v', k, e⟩ := numGo_ok most l ((d.toNat : Int) - 48)
    rw [e] at h
    cases h
    omega
  ·exact ⟨by simp [Rd.at], fun v n h => by cases h⟩
theorem end_len (l : List UInt8) : (endS l).at ≤ l.length := by
 unfold endS
 split
 ·rw [map_at]; exact (lit_len _ _).1
 ·exact (num_len _ _).1
theorem map_ok {α β : Type} {f : α → β} {x : Rd α} {w : β} {n : Nat} (h : mapP f x = .ok w n) : ∃ v, x = .ok v n ∧ f v = w := by
 cases x with
 | ok v m => cases h; exact ⟨v, rfl, rfl⟩
 | no m => cases h
theorem up_ok {α : Type} {x : Rd α} {w : α} {k n : Nat} (h : x.up k = .ok w n) : ∃ m, x = .ok w m ∧ n = k + m := by
 cases x with
 | ok v m => cases h; exact ⟨m, rfl, rfl⟩
 | no m => cases h
theorem thenOk' {α β : Type} {p : Rd α} {f : α → List UInt8 → Rd β} {l : List UInt8} {w : β} {n : Nat} (h : thenP p f l = .ok w n) : ∃ v a b, p = .ok v a ∧ f v (l.drop a) = .ok w b ∧ n = a + b := by
 cases p with
 | no m => cases h
 | ok v a =>
  rw [thenOk rfl] at h
  obtain ⟨m, h1, h2⟩ := up_ok h
  exact ⟨v, a, m, rfl, h1, h2⟩
theorem bts_size (s : List UInt8) : (bts s).size = s.length := by simp [bts, ByteArray.size]
theorem hd_ne {l : List UInt8} (h : hd l ≠ 0) : 1 ≤ l.length := by
 cases l with
 | nil => exact absurd rfl h
 | cons c l => simp
theorem ref_len (d : Int) (l : List UInt8) : (refS d l).at ≤ l.length ∧ ∀ r n, refS d l = .ok r n → 1 ≤ n ∧ r.nm.size ≤ n := by
 unfold refS
 split
 ·rename_i h
  have hl := hd_ne (l := l) (by omega)
  rw [up_at, map_at]
  have := num_len (1099511627775 + d) (l.drop 1)
  rw [List.length_drop] at this
  refine ⟨by omega, fun r n h => ?_⟩
  obtain ⟨m, h1, rfl⟩ := up_ok h
  obtain ⟨v, h2, rfl⟩ := map_ok h1
  exact ⟨by omega, Nat.zero_le _⟩
 ·split
  ·rename_i h0 h
   have hl := hd_ne (l := l) (by omega)
   rw [up_at, map_at]
   have := num_len 1439999999 (l.drop 1)
   rw [List.length_drop] at this
   refine ⟨by omega, fun r n h => ?_⟩
   obtain ⟨m, h1, rfl⟩ := up_ok h
   obtain ⟨v, h2, rfl⟩ := map_ok h1
   exact ⟨by omega, Nat.zero_le _⟩
  ·split
   ·rw [map_at]
    have := num_len 1099511627776 l
    refine ⟨this.1, fun r n h => ?_⟩
    obtain ⟨v, h2, rfl⟩ := map_ok h
    exact ⟨this.2 v n h2, Nat.zero_le _⟩
   ·rw [map_at]
    have := sym_len l
    refine ⟨this.1, fun r n h => ?_⟩
    obtain ⟨v, h2, rfl⟩ := map_ok h
    have := this.2 v n h2
    exact ⟨this.2, by rw [bts_size]; omega⟩
theorem args_len (d : Int) : ∀ (k : Nat) (l : List UInt8), (argsS d k l).at ≤ l.length ∧ ∀ rs n, argsS d k l = .ok rs n → rbulks rs ≤ n
 | 0, l => ⟨Nat.zero_le _, fun rs n h => by cases h⟩
 | k + 1, l => by
  unfold argsS
  have hr := ref_len d l
  constructor
  ·refine then_len hr.1 fun r n _ => ?_
   split
   ·rw [map_at]; exact (lit_len _ _).1
   ·refine then_len (lit_len _ _).1 fun _ m _ => ?_
    rw [map_at]; exact (args_len d k _).1
  ·intro rs n h
   obtain ⟨r, a, b, h1, h2, rfl⟩ := thenOk' h
   have := hr.2 r a h1
   split at h2
   ·obtain ⟨u, h3, rfl⟩ := map_ok h2
    have := (lit_len _ _).2 u b h3
    simp only [rbulks]
    simp at this
    omega
   ·obtain ⟨u, a', b', h3, h4, rfl⟩ := thenOk' h2
    obtain ⟨rs', h5, rfl⟩ := map_ok h4
    have := (lit_len _ _).2 u a' h3
    have := (args_len d k _).2 rs' b' h5
    simp only [rbulks]
    simp at *
    omega
theorem atom_len (d : Int) (l : List UInt8) : (atomS d l).at ≤ l.length ∧ ∀ f n, atomS d l = .ok f n → f.bulk ≤ n := by
 unfold atomS
 constructor
 ·refine then_len (sym_len _).1 fun s n _ => then_len (lit_len _ _).1 fun _ m _ => ?_
  rw [map_at]; exact (args_len d 3 _).1
 ·intro f n h
  obtain ⟨s, a, b, h1, h2, rfl⟩ := thenOk' h
  obtain ⟨u, a', b', h3, h4, rfl⟩ := thenOk' h2
  obtain ⟨rs, h5, rfl⟩ := map_ok h4
  have := (sym_len l).2 s a h1
  have := (lit_len _ _).2 u a' h3
  have := (args_len d 3 _).2 rs b' h5
  simp only [Fm.bulk, fbulks, bts_size]
  simp at *
  omega
end Go.Abs
namespace Go.Abs
open Go
set_option linter.unusedVariables false
set_option linter.unusedSimpArgs false
theorem agree.len {l l' : List UInt8} {n : Nat} (h : agree l l' n) : n ≤ l'.length := by
 have := congrArg List.length h.2.1
 rw [List.length_take, List.length_take] at this
 have := h.1
 omega
theorem atom_pos {d : Int} {l : List UInt8} (h : 97 ≤ hd l ∧ hd l ≤ 122) : 1 ≤ (atomS d l).at := by
 obtain ⟨c, r, rfl, hc⟩ := hd_pos (c := hd l) rfl (by omega)
 have hl : lowerB c = true := by
  have h : 97 ≤ c.toNat ∧ c.toNat ≤ 122 := h
  unfold lowerB; simp only [Bool.and_eq_true, decide_eq_true_eq]; omega
 have e : symS (c :: r) = .ok (c :: r.takeWhile tailB) (1 + (r.takeWhile tailB).length) := by rw [symS_cons, if_pos hl]
 unfold atomS
 rw [thenOk e, up_at]
 omega
theorem lit1_pos {c : UInt8} {w l : List UInt8} (h : hd l = c.toNat) (hc : 0 < c.toNat) : 1 ≤ (litS (c :: w) l).at := by
 obtain ⟨d, r, rfl, hd⟩ := hd_pos h hc
 exact lit_pos (u8_eq hd)
theorem then_pos {α β : Type} {p : Rd α} {f : α → List UInt8 → Rd β} {l : List UInt8} (h : 1 ≤ p.at) : 1 ≤ (thenP p f l).at := by
 cases p with
 | no n => exact h
 | ok v n => rw [thenOk rfl, up_at]; have h : 1 ≤ n := h; omega
theorem fm_loc : ∀ F : Nat,
  (∀ (F' : Nat) (d : Int) (l l' : List UInt8), 4 * l.length < F → 4 * l'.length < F' → Loc (fmS F d l) (fmS F' d l') l l') ∧
  (∀ (F' : Nat) (d op : Int) (nm : ByteArray) (a b : Int) (k : Nat) (l l' : List UInt8), 4 * l.length < F → 4 * l'.length < F' → Loc (bodyS F d op nm a b k l) (bodyS F' d op nm a b k l') l l') ∧
  (∀ (F' : Nat) (d : Int) (l l' : List UInt8), 4 * l.length + 1 < F → 4 * l'.length + 1 < F' → Loc (itemsS F d l) (itemsS F' d l') l l') := by
 intro F
 induction F with
 | zero => exact ⟨fun F' d l l' h => absurd h (Nat.not_lt_zero _), fun F' d op nm a b k l l' h => absurd h (Nat.not_lt_zero _), fun F' d l l' h => absurd h (Nat.not_lt_zero _)⟩
 | succ F ih =>
  obtain ⟨ih1, ih2, ih3⟩ := ih
  refine ⟨fun F' d l l' h1 h2 => ?_, fun F' d op nm a b k l l' h1 h2 => ?_, fun F' d l l' h1 h2 => ?_⟩
  all_goals (obtain ⟨F', rfl⟩ : ∃ G, F' = G + 1 := ⟨F' - 1, by omega⟩)
  ·intro ha
   unfold fmS at ha ⊢
   by_cases hl : 97 ≤ hd l ∧ hd l ≤ 122
   ·rw [if_pos hl] at ha ⊢
    have hl' : 97 ≤ hd l' ∧ hd l' ≤ 122 := by
     rcases ha.hd with e | ⟨_, e⟩
     ·rw [e]; exact hl
     ·have := atom_pos (d := d) hl; omega
    rw [if_pos hl']
    exact atom_loc d l l' ha
   ·rw [if_neg hl] at ha ⊢
    have hl' : ¬ (97 ≤ hd l' ∧ hd l' ≤ 122) := by
     rcases ha.hd with e | ⟨e, _⟩
     ·rw [e]; exact hl
     ·rw [e]; simp [hd]
    rw [if_neg hl']
    refine Loc.then (op_loc l l') (fun op n hop hn => ?_) ha
    have ho := op_two hop
    have hn' := hn.len
    have d1 : 4 * (l.drop n).length < F := by rw [List.length_drop]; omega
    have d2 : 4 * (l'.drop n).length < F' := by rw [List.length_drop]; omega
    have e1 : ∀ (l : List UInt8) (m : Nat), (l.drop m).length ≤ l.length := fun l m => by rw [List.length_drop]; omega
    generalize l.drop n = q at d1 ⊢
    generalize l'.drop n = q' at d2 ⊢
    split
    ·exact fun _ => rfl
    ·split
     ·exact Loc.then (lit_loc _ _ _) fun _ m _ _ => Loc.then (sym_loc _ _) fun s m2 _ _ => ih2 F' _ _ _ _ _ _ _ _ (by have := e1 (q.drop m) m2; have := e1 q m; omega) (by have := e1 (q'.drop m) m2; have := e1 q' m; omega)
     ·split
      ·exact Loc.then (lit_loc _ _ _) fun _ m _ _ => Loc.then (end_loc _ _) fun s m2 _ _ => Loc.then (lit_loc _ _ _) fun _ m3 _ _ => Loc.then (end_loc _ _) fun s m4 _ _ => ih2 F' _ _ _ _ _ _ _ _
        (by have := e1 (((q.drop m).drop m2).drop m3) m4; have := e1 ((q.drop m).drop m2) m3; have := e1 (q.drop m) m2; have := e1 q m; omega)
        (by have := e1 (((q'.drop m).drop m2).drop m3) m4; have := e1 ((q'.drop m).drop m2) m3; have := e1 (q'.drop m) m2; have := e1 q' m; omega)
      ·split
       ·exact ih2 F' _ _ _ _ _ _ _ _ d1 d2
       ·split
        ·exact ih2 F' _ _ _ _ _ _ _ _ d1 d2
        ·exact ih2 F' _ _ _ _ _ _ _ _ d1 d2
  ·unfold bodyS
   refine Loc.then (lit_loc _ _ _) fun u m hm hn => Loc.map _ ?_
   have hm1 : m = 1 := (lit_len _ _).2 u m hm
   subst hm1
   have hn' := hn.len
   have hn1 := hn.1
   have d1 : 4 * (l.drop 1).length + 1 < F := by rw [List.length_drop]; omega
   have d2 : 4 * (l'.drop 1).length + 1 < F' := by rw [List.length_drop]; omega
   have e1 : ∀ (l : List UInt8) (m : Nat), (l.drop m).length ≤ l.length := fun l m => by rw [List.length_drop]; omega
   generalize l.drop 1 = q at d1 ⊢
   generalize l'.drop 1 = q' at d2 ⊢
   match k with
   | 0 =>
    intro ha
    by_cases h41 : hd q = 41
    ·rw [if_pos h41] at ha ⊢
     have : hd q' = 41 := by
      rcases ha.hd with e | ⟨_, e⟩
      ·rw [e]; exact h41
      ·cases e
     rw [if_pos this]
     rfl
    ·rw [if_neg h41] at ha ⊢
     have : ¬ hd q' = 41 := by
      rcases ha.hd with e | ⟨e, _⟩
      ·rw [e]; exact h41
      ·rw [e]; simp [hd]
     rw [if_neg this]
     exact ih3 F' d q q' d1 d2 ha
   | 1 =>
    exact Loc.then (ih1 F' d q q' (by omega) (by omega)) fun f n _ _ => Loc.map _ (lit_loc _ _ _)
   | k + 2 =>
    refine Loc.then (ih1 F' d q q' (by omega) (by omega)) fun f n _ _ => Loc.then (lit_loc _ _ _) fun _ m _ _ => Loc.then (ih1 F' d _ _ ?_ ?_) fun g n2 _ _ => Loc.map _ (lit_loc _ _ _)
    ·have := e1 (q.drop n) m; have := e1 q n; omega
    ·have := e1 (q'.drop n) m; have := e1 q' n; omega
  ·unfold itemsS
   refine Loc.then (ih1 F' d l l' (by omega) (by omega)) fun f n hf hn ha => ?_
   by_cases h44 : hd (l.drop n) ≠ 44
   ·rw [if_pos h44] at ha ⊢
    have : hd (l'.drop n) ≠ 44 := by
     rcases ha.hd with e | ⟨e, _⟩
     ·rw [e]; exact h44
     ·rw [e]; simp [hd]
    rw [if_pos this]
    exact Loc.map _ (lit_loc _ _ _) ha
   ·rw [if_neg h44] at ha ⊢
    have h44' := Decidable.not_not.1 h44
    have : ¬ hd (l'.drop n) ≠ 44 := by
     rcases ha.hd with e | ⟨_, e⟩
     ·rw [e]; exact h44
     ·have := then_pos (f := fun _ l => mapP (fun fs => f :: fs) (itemsS F d l)) (l := l.drop n) (lit1_pos (c := 44) (w := [32]) h44' (by decide))
      omega
    rw [if_neg this]
    refine Loc.then (lit_loc _ _ _) (fun u m hm hn2 => Loc.map _ (ih3 F' d _ _ ?_ ?_)) ha
    ·have hm2 : m = 2 := (lit_len _ _).2 u m hm
     have := hn2.1
     rw [List.length_drop] at this
     rw [List.length_drop, List.length_drop]
     omega
    ·have hm2 : m = 2 := (lit_len _ _).2 u m hm
     have := hn2.len
     rw [List.length_drop] at this
     rw [List.length_drop, List.length_drop]
     omega
theorem fm_len : ∀ F : Nat,
  (∀ (d : Int) (l : List UInt8), (fmS F d l).at ≤ l.length ∧ ∀ f n, fmS F d l = .ok f n → f.bulk ≤ n) ∧
  (∀ (d op : Int) (nm : ByteArray) (a b : Int) (k : Nat) (l : List UInt8), (bodyS F d op nm a b k l).at ≤ l.length ∧ ∀ f n, bodyS F d op nm a b k l = .ok f n → f.bulk ≤ nm.size + n) ∧
  (∀ (d : Int) (l : List UInt8), (itemsS F d l).at ≤ l.length ∧ ∀ fs n, itemsS F d l = .ok fs n → fbulks fs ≤ n) := by
 intro F
 induction F with
 | zero => exact ⟨fun d l => ⟨Nat.zero_le _, fun f n h => by simp [fmS] at h⟩, fun d op nm a b k l => ⟨Nat.zero_le _, fun f n h => by simp [bodyS] at h⟩, fun d l => ⟨Nat.zero_le _, fun f n h => by simp [itemsS] at h⟩⟩
 | succ F ih =>
  obtain ⟨ih1, ih2, ih3⟩ := ih
  refine ⟨fun d l => ?_, fun d op nm a b k l => ?_, fun d l => ?_⟩
  ·unfold fmS
   split
   ·exact atom_len d l
   ·constructor
    ·refine then_len ?_ fun op n _ => ?_
     ·cases h : opS l with
      | ok v n => exact (op_two h).2
      | no n =>
       have := op_loc l l
       have h2 : n ≤ l.length := by
        unfold opS at h
        have key : ∀ (ws : List (Int × List UInt8)) (best : Nat), best ≤ l.length → opGo ws best l = .no n → n ≤ l.length := by
         intro ws
         induction ws with
         | nil => intro best hb hh; simp [opGo] at hh; omega
         | cons p ws ihw =>
          intro best hb hh
          simp only [opGo] at hh
          split at hh
          ·cases hh
          ·exact ihw _ (by have := (lcp_le p.2 l).2; omega) hh
        exact key _ 0 (Nat.zero_le _) h
       exact h2
     ·split
      ·exact Nat.zero_le _
      ·split
       ·exact then_len (lit_len _ _).1 fun _ m _ => then_len (sym_len _).1 fun s m2 _ => (ih2 _ _ _ _ _ _ _).1
       ·split
        ·exact then_len (lit_len _ _).1 fun _ m _ => then_len (end_len _) fun _ m2 _ => then_len (lit_len _ _).1 fun _ m3 _ => then_len (end_len _) fun s m4 _ => (ih2 _ _ _ _ _ _ _).1
        ·split
         ·exact (ih2 _ _ _ _ _ _ _).1
         ·split
          ·exact (ih2 _ _ _ _ _ _ _).1
          ·exact (ih2 _ _ _ _ _ _ _).1
    ·intro f n h
     obtain ⟨op, a, b, h1, h2, rfl⟩ := thenOk' h
     have ho := op_two h1
     have e0 : (⟨#[]⟩ : ByteArray).size = 0 := rfl
     split at h2
     ·cases h2; simp only [Fm.bulk, rbulks, fbulks, e0]; omega
     ·split at h2
      ·obtain ⟨u, a1, b1, h3, h4, rfl⟩ := thenOk' h2
       obtain ⟨s, a2, b2, h5, h6, rfl⟩ := thenOk' h4
       have := (ih2 _ _ _ _ _ _ _).2 _ _ h6
       have := (sym_len _).2 _ _ h5
       rw [bts_size] at *
       omega
      ·split at h2
       ·obtain ⟨u, a1, b1, h3, h4, rfl⟩ := thenOk' h2
        obtain ⟨s, a2, b2, h5, h6, rfl⟩ := thenOk' h4
        obtain ⟨u3, a3, b3, h7, h8, rfl⟩ := thenOk' h6
        obtain ⟨u4, a4, b4, h9, h10, rfl⟩ := thenOk' h8
        have := (ih2 _ _ _ _ _ _ _).2 _ _ h10
        omega
       ·split at h2
        ·have := (ih2 _ _ _ _ _ _ _).2 _ _ h2; omega
        ·split at h2
         ·have := (ih2 _ _ _ _ _ _ _).2 _ _ h2; omega
         ·have := (ih2 _ _ _ _ _ _ _).2 _ _ h2; omega
  ·unfold bodyS
   constructor
   ·refine then_len (lit_len _ _).1 fun _ m _ => ?_
    rw [map_at]
    match k with
    | 0 =>
     show (if hd (l.drop m) = 41 then (Rd.ok [] 1 : Rd (List Fm)) else itemsS F d (l.drop m)).at ≤ _
     split
     ·rename_i h
      have := hd_ne (l := l.drop m) (by omega)
      exact this
     ·exact (ih3 _ _).1
    | 1 => exact then_len (ih1 _ _).1 fun _ _ _ => by rw [map_at]; exact (lit_len _ _).1
    | k + 2 => exact then_len (ih1 _ _).1 fun _ _ _ => then_len (lit_len _ _).1 fun _ _ _ => then_len (ih1 _ _).1 fun _ _ _ => by rw [map_at]; exact (lit_len _ _).1
   ·intro f n h
    obtain ⟨u, a1, b1, h3, h4, rfl⟩ := thenOk' h
    obtain ⟨ks, h5, rfl⟩ := map_ok h4
    have h1 := (lit_len _ _).2 _ _ h3
    simp only [List.length_cons, List.length_nil] at h1
    have : fbulks ks ≤ b1 := by
     match k, h5 with
     | 0, h5 =>
      have h5 : (if hd (l.drop a1) = 41 then (Rd.ok [] 1 : Rd (List Fm)) else itemsS F d (l.drop a1)) = .ok ks b1 := h5
      split at h5
      ·cases h5; simp [fbulks]
      ·exact (ih3 _ _).2 _ _ h5
     | 1, h5 =>
      obtain ⟨f, a2, b2, h6, h7, rfl⟩ := thenOk' h5
      obtain ⟨u2, h8, rfl⟩ := map_ok h7
      have := (ih1 _ _).2 _ _ h6
      simp only [fbulks]
      omega
     | k + 2, h5 =>
      obtain ⟨f, a2, b2, h6, h7, rfl⟩ := thenOk' h5
      obtain ⟨u2, a3, b3, h8, h9, rfl⟩ := thenOk' h7
      obtain ⟨g, a4, b4, h10, h11, rfl⟩ := thenOk' h9
      obtain ⟨u5, h12, rfl⟩ := map_ok h11
      have := (ih1 _ _).2 _ _ h6
      have := (ih1 _ _).2 _ _ h10
      simp only [fbulks]
      omega
    simp only [Fm.bulk, rbulks]
    omega
  ·unfold itemsS
   constructor
   ·refine then_len (ih1 _ _).1 fun _ _ _ => ?_
    split
    ·rw [map_at]; exact (lit_len _ _).1
    ·refine then_len (lit_len _ _).1 fun _ _ _ => ?_
     rw [map_at]; exact (ih3 _ _).1
   ·intro fs n h
    obtain ⟨f, a2, b2, h6, h7, rfl⟩ := thenOk' h
    have := (ih1 _ _).2 _ _ h6
    split at h7
    ·obtain ⟨u2, h8, rfl⟩ := map_ok h7
     simp only [fbulks]
     omega
    ·obtain ⟨u2, a3, b3, h8, h9, rfl⟩ := thenOk' h7
     obtain ⟨gs, h10, rfl⟩ := map_ok h9
     have := (ih3 _ _).2 _ _ h10
     simp only [fbulks]
     omega
end Go.Abs
namespace Go.Proofs.YtehkgiofchmpaaaDoor
open Go Go.Abs Go.Abs.Asks
set_option linter.unusedVariables false
set_option linter.unusedSimpArgs false
set_option linter.unusedSectionVars false
def pB (s : ByteArray) (a : Nat) : List ((Nat × Nat) × Box) := [((1, 2), zeroBox), ((1, 3), ⟨[.d (.int .i64 0)], false, (0, 0)⟩), ((1, 4), ⟨[.d (.int .i64 0)], false, (0, 0)⟩), ((2, 9), ⟨[.d (.str s), .d (.int .i64 a)], false, (0, 0)⟩)]
def pB3 (s : ByteArray) (a : Nat) : List ((Nat × Nat) × Box) := pB s a ++ [((3, 2), ⟨[.ptr 2 9 0], false, (0, 0)⟩)]
def wrongD (n : Nat) : D := .iface 60 (.agg [.int .i64 n])
theorem drop_len (s : ByteArray) (a : Nat) : (s.data.toList.drop a).length = s.size - a := by rw [List.length_drop, ← bsize]
theorem hd_drop {s : ByteArray} {a : Nat} {e : UInt8} (h : s[a]? = some e) : hd (s.data.toList.drop a) = e.toNat := by
 rw [bget] at h
 rw [drop_cons h]; rfl
theorem hd_end {s : ByteArray} {a : Nat} (h : s.size ≤ a) : hd (s.data.toList.drop a) = 0 := by
 rw [List.drop_eq_nil_of_le (by rw [← bsize]; exact h)]; rfl
theorem drop_end {s : ByteArray} {a : Nat} (h : s.size ≤ a) : s.data.toList.drop a = [] := List.drop_eq_nil_of_le (by rw [← bsize]; exact h)
theorem byte_at {s : ByteArray} {a : Nat} (h : a < s.size) : ∃ e, s[a]? = some e ∧ s.data.toList.drop a = e :: s.data.toList.drop (a + 1) := by
 obtain ⟨e, he⟩ := get_some (l := s.data.toList) (i := a) (by rw [← bsize]; exact h)
 exact ⟨e, by rw [bget]; exact he, drop_cons he⟩
theorem up_zero {α : Type} (x : Rd α) : x.up 0 = x := by cases x <;> simp [Rd.up]
theorem up_up {α : Type} (x : Rd α) (m n : Nat) : (x.up m).up n = x.up (n + m) := by cases x <;> simp [Rd.up, Nat.add_assoc]
theorem bts_get {w : List UInt8} {i : Nat} {e : UInt8} (h : w[i]? = some e) : (bts w)[i]? = some e := by rw [bget]; exact h
def tailH (l : List UInt8) : Bool := match l with
 | [] => false
 | c :: _ => tailB c
def digH (l : List UInt8) : Bool := match l with
 | [] => false
 | c :: _ => digB c
theorem digH_hd (l : List UInt8) : digH l = (decide (48 ≤ (hd l : Int)) && decide ((hd l : Int) ≤ 57)) := by cases l <;> rfl
theorem tw_head {p : UInt8 → Bool} {l : List UInt8} {i : Nat} (h : i < (l.takeWhile p).length) : ∃ e, l[i]? = some e ∧ p e = true := by
 have hl := tw_len p l
 obtain ⟨e, he⟩ := get_some (l := l) (i := i) (by omega)
 refine ⟨e, he, ?_⟩
 have key : ∀ (l : List UInt8) (i : Nat), i < (l.takeWhile p).length → l[i]? = some e → p e = true := by
  intro l
  induction l with
  | nil => intro i h; simp at h
  | cons c l ih =>
   intro i h he
   rw [List.takeWhile_cons] at h
   split at h
   ·rename_i hc
    cases i with
    | zero => simp at he; subst he; exact hc
    | succ i => exact ih i (by simpa using h) (by simpa using he)
   ·simp at h
 exact key l i h he
theorem tw_stop (p : UInt8 → Bool) : ∀ l : List UInt8, ∀ e, (l.drop (l.takeWhile p).length)[0]? = some e → p e = false
 | [], e, h => by simp at h
 | c :: l, e, h => by
  rw [List.takeWhile_cons] at h
  by_cases hc : p c = true
  ·rw [if_pos hc, List.length_cons, List.drop_succ_cons] at h
   exact tw_stop p l e h
  ·rw [if_neg hc] at h
   simp at h
   subst h
   simpa using hc
theorem sym_tw {l : List UInt8} (h : headB l = true) : symS l = .ok (l.takeWhile tailB) (l.takeWhile tailB).length := by
 cases l with
 | nil => cases h
 | cons c l =>
  have h : lowerB c = true := h
  rw [symS_cons, if_pos h, List.takeWhile_cons, if_pos (lower_tail h), List.length_cons, Nat.add_comm]
theorem sym_none {l : List UInt8} (h : headB l = false) : symS l = .no 0 := by
 cases l with
 | nil => rfl
 | cons c l =>
  have h : lowerB c = false := h
  rw [symS_cons, if_neg (by rw [h]; simp)]
theorem ext_eq (s : ByteArray) (a b : Nat) : s.extract a b = bts ((s.data.toList.take b).drop a) := by
 have e : (s.extract a b).data.toList = (s.data.toList.take b).drop a := by
  rw [ByteArray.data_extract, Array.toList_extract, List.extract_eq_take_drop, List.drop_take]
 rw [← e]
 unfold bts
 rfl
theorem tw_take (p : UInt8 → Bool) (l : List UInt8) : l.takeWhile p = l.take (l.takeWhile p).length := (List.prefix_iff_eq_take.1 (List.takeWhile_prefix p))
theorem num_none {most : Int} {l : List UInt8} (h : digH l = false) : numS most l = .no 0 := by
 cases l with
 | nil => rfl
 | cons c l =>
  have h : digB c = false := h
  rw [numS_cons, if_neg (by rw [h]; simp)]
def NumInv (most : Int) (l : List UInt8) (i : Nat) (n : Int) : Prop := i ≤ l.length ∧ 0 ≤ n ∧ n ≤ most ∧ ((i = 0 ∧ n = 0 ∧ digH l = true) ∨ (1 ≤ i ∧ (n = 0 → numS most l = .ok 0 i) ∧ (0 < n → numS most l = (numGo most n (l.drop i)).up i)))
theorem num_step {most : Int} {l : List UInt8} {i : Nat} {n : Int} (h : NumInv most l i n) {d : UInt8} {r : List UInt8} (hl : l.drop i = d :: r) (hd : digB d = true) (hc : i = 0 ∨ 0 < n) (hm : n * 10 + ((d.toNat : Int) - 48) ≤ most) : NumInv most l (i + 1) (n * 10 + ((d.toNat : Int) - 48)) := by
 have hdd := dig_hd.1 hd
 obtain ⟨h1, h2, h3, h4⟩ := h
 have hlen : i + 1 ≤ l.length := by
  have := congrArg List.length hl
  rw [List.length_drop, List.length_cons] at this
  omega
 refine ⟨hlen, by omega, hm, .inr ⟨by omega, ?_⟩⟩
 rcases h4 with ⟨rfl, rfl, _⟩ | ⟨h5, h6, h7⟩
 ·rw [List.drop_zero] at hl
  subst hl
  rw [numS_cons, if_pos hd]
  refine ⟨fun h0 => ?_, fun h0 => ?_⟩
  ·rw [if_pos (u8_eq (c := 48) (by show d.toNat = 48; omega))]
  ·rw [if_neg (fun e => by subst e; simp at h0)]
   rw [Int.zero_mul, Int.zero_add]; rfl
 ·have h0 : 0 < n := by omega
  refine ⟨fun he => by omega, fun _ => ?_⟩
  rw [h7 h0, hl, numGo, if_pos ⟨hd, hm⟩, up_up]
  have : l.drop (i + 1) = r := by
   have := congrArg (List.drop 1) hl
   rwa [List.drop_drop] at this
  rw [this]
theorem num_stop {most : Int} {l : List UInt8} {i : Nat} {n : Int} (h : NumInv most l i n) (hc : ¬ (digH (l.drop i) = true ∧ (i = 0 ∨ 0 < n))) : numS most l = .ok n i := by
 obtain ⟨h1, h2, h3, h4⟩ := h
 rcases h4 with ⟨rfl, rfl, h5⟩ | ⟨h5, h6, h7⟩
 ·exact absurd ⟨h5, .inl rfl⟩ hc
 ·by_cases h0 : n = 0
  ·subst h0; exact h6 rfl
  ·rw [h7 (by omega)]
   cases hd : l.drop i with
   | nil => simp [numGo, Rd.up]
   | cons d r =>
    rw [hd] at hc
    have : digB d = false := by
     cases hb : digB d with
     | false => rfl
     | true => exact absurd ⟨hb, .inr (by omega)⟩ hc
    rw [numGo, if_neg (by rw [this]; simp)]
    simp [Rd.up]
theorem num_over {most : Int} {l : List UInt8} {i : Nat} {n : Int} (h : NumInv most l i n) {d : UInt8} {r : List UInt8} (hl : l.drop i = d :: r) (hd : digB d = true) (hc : i = 0 ∨ 0 < n) (h9 : 9 ≤ most) (hm : ¬ n * 10 + ((d.toNat : Int) - 48) ≤ most) : numS most l = .ok n i := by
 have hdd := dig_hd.1 hd
 obtain ⟨h1, h2, h3, h4⟩ := h
 rcases h4 with ⟨rfl, rfl, h5⟩ | ⟨h5, h6, h7⟩
 ·omega
 ·rw [h7 (by omega), hl, numGo, if_neg (fun h => hm h.2)]
  simp [Rd.up]
theorem wrap_u8 {n : Int} (h1 : 0 ≤ n) (h2 : n < 256) : IntKind.u8.wrap n = n := by
 unfold IntKind.wrap
 simp only [IntKind.bits, IntKind.signed, Bool.false_and]
 simp
 omega
theorem digH_cons {l : List UInt8} (h : digH l = true) : ∃ d r, l = d :: r ∧ digB d = true := by
 cases l with
 | nil => cases h
 | cons d r => exact ⟨d, r, rfl, h⟩
variable [Asks]
theorem firstH_ev (l : List UInt8) : Ev pr 75 [.int .u8 (hd l)] (.ret [.d (.bool (headB l))]) := by
 cases l with
 | nil => exact first_ev 0
 | cons c l => exact first_ev c
theorem restH_ev (l : List UInt8) : Ev pr 101 [.int .u8 (hd l)] (.ret [.d (.bool (tailH l))]) := by
 cases l with
 | nil => exact rest_ev 0
 | cons c l => exact rest_ev c
theorem failE (s : ByteArray) (a : Nat) {c : Nat} {K : Nat → Out → G → Option Out} {r : Out} (h : Evx (fun i => K i (.pan (wrongD a)) ⟨tabB (pB s a), 2, []⟩) r) :
  Evx (fun i => runQ (pr i) (i - c) Out (.fn (.func 44)) [.ptr 2 9 0] ⟨tabB (pB s a), 2, []⟩ (K i)) r := by
 apply Evx.enter; (conv=>arg 1;ext i;whnf)
 exact Evx.fq (h)
theorem peekE (s : ByteArray) (a : Nat) (ha : a ≤ s.size) {c : Nat} {K : Nat → Out → G → Option Out} {r : Out} (hK : Evx (fun i => K i (.ret [.d (.int .u8 (hd (s.data.toList.drop a)))]) ⟨tabB (pB s a), 2, []⟩) r) :
  Evx (fun i => runQ (pr i) (i - c) Out (.fn (.func 76)) [.ptr 2 9 0] ⟨tabB (pB s a), 2, []⟩ (K i)) r := by
 apply Evx.enter; (conv=>arg 1;ext i;whnf)
 (refine Evx.bool (fun h => ?_) (fun h => ?_) <;> (try simp only [bbs] at h) <;> (first | (exfalso; omega) | exact absurd trivial h | (conv=>arg 1;ext i;whnf)))
 ·rw [hd_end (by omega)] at hK
  exact Evx.fq (hK)
 ·obtain ⟨e, he, _⟩ := byte_at (s := s) (a := a) (by omega)
  refine Evx.chr rfl he ?_
  (conv=>arg 1;ext i;whnf)
  rw [hd_drop he] at hK
  exact Evx.fq (hK)
theorem peek3E (s : ByteArray) (a : Nat) (ha : a ≤ s.size) {c : Nat} {K : Nat → Out → G → Option Out} {r : Out} (hK : Evx (fun i => K i (.ret [.d (.int .u8 (hd (s.data.toList.drop a)))]) ⟨tabB (pB3 s a), 3, []⟩) r) :
  Evx (fun i => runQ (pr i) (i - c) Out (.fn (.func 76)) [.ptr 2 9 0] ⟨tabB (pB3 s a), 3, []⟩ (K i)) r := by
 apply Evx.enter; (conv=>arg 1;ext i;whnf)
 (refine Evx.bool (fun h => ?_) (fun h => ?_) <;> (try simp only [bbs] at h) <;> (first | (exfalso; omega) | exact absurd trivial h | (conv=>arg 1;ext i;whnf)))
 ·rw [hd_end (by omega)] at hK
  exact Evx.fq (hK)
 ·obtain ⟨e, he, _⟩ := byte_at (s := s) (a := a) (by omega)
  refine Evx.chr rfl he ?_
  (conv=>arg 1;ext i;whnf)
  rw [hd_drop he] at hK
  exact Evx.fq (hK)
theorem litE (s : ByteArray) (hs : s.size < 2 ^ 30) (w : List UInt8) (hw : w.length < 2 ^ 20) (a : Nat) (ha : a ≤ s.size) {c : Nat} {K : Nat → Out → G → Option Out} {r : Out}
  (hok : ∀ n, litS w (s.data.toList.drop a) = .ok () n → Evx (fun i => K i (.ret []) ⟨tabB (pB s (a + n)), 2, []⟩) r)
  (hno : ∀ n, litS w (s.data.toList.drop a) = .no n → Evx (fun i => K i (.pan (wrongD (a + n))) ⟨tabB (pB s (a + n)), 2, []⟩) r) :
  Evx (fun i => runQ (pr i) (i - c) Out (.fn (.func 79)) [.ptr 2 9 0, .d (.str (bts w))] ⟨tabB (pB s a), 2, []⟩ (K i)) r := by
 apply Evx.enter; (conv=>arg 1;ext i;whnf)
 refine Evx.loopB hint79 1 (α := { i : Nat // i ≤ w.length ∧ a + i ≤ s.size ∧ litS w (s.data.toList.drop a) = (litS (w.drop i) (s.data.toList.drop (a + i))).up i }) (fun i => [some (.ptr 2 9 0), some (.d (.str (bts w))), some (.d (.int .i64 (bts w).size)), some (.d (.int .i64 (i.1 : Nat)))]) (fun _ => []) (fun i => pB s (a + i.1)) 3 [] (fun i => w.length - i.1) (fun _ => r) ?_ ⟨0, Nat.zero_le _, ha, by simp [up_zero]⟩ (fun _ => rfl) (fun _ => rfl) (fun _ => rfl) (fun _ => by kernel_rfl) (fun _ => ?_)
 ·rintro ⟨i, hi, hai, hlit⟩ L ih; (conv=>arg 1;ext i;whnf)
  rw [bts_size] at *
  (refine Evx.bool (fun h => ?_) (fun h => ?_) <;> (try simp only [bbs] at h) <;> (first | (exfalso; omega) | exact absurd trivial h | (conv=>arg 1;ext i;whnf)))
  ·obtain ⟨e, he⟩ := get_some (l := w) (i := i) (by omega)
   have hwe := bts_get he
   rw [drop_cons he] at hlit
   (refine Evx.bool (fun h => ?_) (fun h => ?_) <;> (try simp only [bbs] at h) <;> (first | (exfalso; omega) | exact absurd trivial h | (conv=>arg 1;ext i;whnf)))
   ·have hl : litS w (s.data.toList.drop a) = .no i := by
     rw [hlit, drop_end (by omega)]; rfl
    refine Evx.cq ([.ptr 2 9 0]) (pB s (a + i)) 2 ?_
    refine failE s (a + i) ?_
    (conv=>arg 1;ext i;whnf)
    exact Evx.fq ((hno i hl))
   ·obtain ⟨b, hb, hd⟩ := byte_at (s := s) (a := a + i) (by omega)
    refine Evx.chr rfl hb ?_
    (conv=>arg 1;ext i;whnf)
    refine Evx.chr rfl hwe ?_
    (conv=>arg 1;ext i;whnf)
    (refine Evx.bool (fun h => ?_) (fun h => ?_) <;> (try simp only [bbs] at h) <;> (first | (exfalso; omega) | exact absurd trivial h | (conv=>arg 1;ext i;whnf)))
    ·have hl : litS w (s.data.toList.drop a) = .no i := by
      rw [hlit, hd]
      simp only [litS]
      rw [if_neg (fun hbe => by subst hbe; simp_all)]
      rfl
     refine Evx.cq ([.ptr 2 9 0]) (pB s (a + i)) 2 ?_
     refine failE s (a + i) ?_
     (conv=>arg 1;ext i;whnf)
     exact Evx.fq ((hno i hl))
    ·have hl : litS w (s.data.toList.drop a) = (litS (w.drop (i + 1)) (s.data.toList.drop (a + (i + 1)))).up (i + 1) := by
      have hbe : b = e := UInt8.toNat_inj.1 (by omega)
      rw [hlit, hd]
      simp only [litS]
      rw [if_pos hbe, up_up, Nat.add_assoc]
     refine Evx.int (n' := ((a + (i + 1) : Nat) : Int)) (by dsimp only; rw [wrap_small] <;> omega) ?_
     (conv=>arg 1;ext i;whnf)
     refine Evx.int (wrap_succ (n := i) (by omega)) ?_
     (conv=>arg 1;ext i;whnf)
     refine ih ⟨i + 1, by omega, by omega, hl⟩ _ (by dsimp only; omega) (fun _ => by kernel_rfl) (fun _ => ?_)
     exact tabC
  ·obtain rfl : i = w.length := by omega
   have hl : litS w (s.data.toList.drop a) = .ok () w.length := by
    rw [hlit, List.drop_length]; rfl
   exact Evx.fq ((hok _ hl))
 ·exact tabC
theorem symE (s : ByteArray) (hs : s.size < 2 ^ 30) (a : Nat) (ha : a ≤ s.size) {c : Nat} {K : Nat → Out → G → Option Out} {r : Out}
  (hok : ∀ v n, symS (s.data.toList.drop a) = .ok v n → Evx (fun i => K i (.ret [.d (.str (bts v))]) ⟨tabB (pB s (a + n)), 2, []⟩) r)
  (hno : symS (s.data.toList.drop a) = .no 0 → Evx (fun i => K i (.pan (wrongD a)) ⟨tabB (pB s a), 2, []⟩) r) :
  Evx (fun i => runQ (pr i) (i - c) Out (.fn (.func 80)) [.ptr 2 9 0] ⟨tabB (pB s a), 2, []⟩ (K i)) r := by
 apply Evx.enter; (conv=>arg 1;ext i;whnf)
 refine Evx.cq ([.ptr 2 9 0]) (pB s a) 2 ?_
 refine peekE s a ha ?_
 (conv=>arg 1;ext i;whnf)
 refine Evx.call (firstH_ev _) ?_
 (conv=>arg 1;ext i;whnf)
 (refine Evx.bool (fun h => ?_) (fun h => ?_) <;> (try simp only [bbs] at h) <;> (first | (exfalso; omega) | exact absurd trivial h | (conv=>arg 1;ext i;whnf)))
 ·refine Evx.cq ([.ptr 2 9 0]) (pB s a) 2 ?_
  refine failE s a ?_
  (conv=>arg 1;ext i;whnf)
  exact Evx.fq ((hno (sym_none h)))
 ·have hm : (symS (s.data.toList.drop a)) = .ok ((s.data.toList.drop a).takeWhile tailB) ((s.data.toList.drop a).takeWhile tailB).length := sym_tw h
  obtain ⟨m, hmd⟩ : ∃ m, m = ((s.data.toList.drop a).takeWhile tailB).length := ⟨_, rfl⟩
  have hml := tw_len tailB (s.data.toList.drop a)
  rw [drop_len, ← hmd] at hml
  rw [← hmd] at hm
  refine Evx.loopB hint80 4 (α := { i : Nat // i ≤ m }) (fun i => [some (.ptr 2 9 0), some (.d (.int .i64 a))]) (fun _ => []) (fun i => pB s (a + i.1)) 3 [] (fun i => m - i.1) (fun _ => r) ?_ ⟨0, Nat.zero_le _⟩ (fun _ => rfl) (fun _ => rfl) (fun _ => rfl) (fun _ => by kernel_rfl) (fun _ => ?_)
  ·rintro ⟨i, hi⟩ L ih; (conv=>arg 1;ext i;whnf)
   refine Evx.cq ([.ptr 2 9 0]) (pB s (a + i)) 2 ?_
   refine peekE s (a + i) (by omega) ?_
   (conv=>arg 1;ext i;whnf)
   refine Evx.call (restH_ev _) ?_
   (conv=>arg 1;ext i;whnf)
   (refine Evx.bool (fun h => ?_) (fun h => ?_) <;> (try simp only [bbs] at h) <;> (first | (exfalso; omega) | exact absurd trivial h | (conv=>arg 1;ext i;whnf)))
   ·have hlt : i < m := by
     by_cases hc : i < m
     ·exact hc
     ·exfalso
      obtain rfl : i = m := by omega
      cases hd : s.data.toList.drop (a + i) with
      | nil => rw [hd] at h; cases h
      | cons e es =>
       rw [hd] at h
       have := tw_stop tailB (s.data.toList.drop a) e (by rw [← hmd, List.drop_drop, hd]; rfl)
       simp only [tailH] at h
       rw [this] at h
       cases h
    refine Evx.int (n' := ((a + (i + 1) : Nat) : Int)) (by rw [wrap_small] <;> omega) ?_
    (conv=>arg 1;ext i;whnf)
    refine ih ⟨i + 1, by omega⟩ _ (by dsimp only; omega) (fun _ => by kernel_rfl) (fun _ => ?_)
    exact tabC
   ·have hge : i = m := by
     by_cases hc : i < m
     ·exfalso
      obtain ⟨e, he, ht⟩ := tw_head (p := tailB) (l := s.data.toList.drop a) (i := i) (by rw [← hmd]; exact hc)
      rw [List.getElem?_drop] at he
      rw [drop_cons he] at h
      simp only [tailH] at h
      rw [ht] at h
      cases h
     ·omega
    subst hge
    refine Evx.mustP ⟨Int.natCast_nonneg _, by simp only [Option.getD]; omega, by simp only [Option.getD]; omega⟩ ?_
    (conv=>arg 1;ext i;whnf)
    have key : s.extract a (a + i) = bts ((s.data.toList.drop a).takeWhile tailB) := by
     rw [ext_eq, tw_take tailB (s.data.toList.drop a), ← hmd, List.drop_take, Nat.add_sub_cancel_left]
    have hK := hok _ _ hm
    rw [← key] at hK
    exact Evx.fq (hK)
  ·exact tabC
theorem digitE (s : ByteArray) (a : Nat) (ha : a ≤ s.size) {c : Nat} {K : Nat → Out → G → Option Out} {r : Out} (hK : Evx (fun i => K i (.ret [.d (.bool (digH (s.data.toList.drop a)))]) ⟨tabB (pB3 s a), 3, []⟩) r) :
  Evx (fun i => runQ (pr i) (i - c) Out (.fn (.func 108)) [.ptr 3 2 0] ⟨tabB (pB3 s a), 3, []⟩ (K i)) r := by
 apply Evx.enter; (conv=>arg 1;ext i;whnf)
 refine Evx.cq ([.ptr 2 9 0]) (pB3 s a) 3 ?_
 refine peek3E s a ha ?_
 (conv=>arg 1;ext i;whnf)
 rw [digH_hd] at hK
 (refine Evx.bool (fun h => ?_) (fun h => ?_) <;> (try simp only [bbs] at h) <;> (first | (exfalso; omega) | exact absurd trivial h | (conv=>arg 1;ext i;whnf)))
 ·have e : hold (decide ((hd (s.data.toList.drop a) : Int) ≤ 57)) = (decide (48 ≤ (hd (s.data.toList.drop a) : Int)) && decide ((hd (s.data.toList.drop a) : Int) ≤ 57)) := by
   rw [hold_eq, decide_eq_true (show 48 ≤ (hd (s.data.toList.drop a) : Int) by omega), Bool.true_and]
  rw [← e] at hK
  exact Evx.fq (hK)
 ·have e : (decide (48 ≤ (hd (s.data.toList.drop a) : Int)) && decide ((hd (s.data.toList.drop a) : Int) ≤ 57)) = false := by
   rw [decide_eq_false (show ¬ 48 ≤ (hd (s.data.toList.drop a) : Int) by omega), Bool.false_and]
  rw [e] at hK
  exact Evx.fq (hK)
theorem numE (s : ByteArray) (hs : s.size < 2 ^ 30) (a : Nat) (ha : a ≤ s.size) (most : Int) (h9 : 9 ≤ most) (hm : most < 2 ^ 50) {c : Nat} {K : Nat → Out → G → Option Out} {r : Out}
  (hok : ∀ v n, numS most (s.data.toList.drop a) = .ok v n → Evx (fun i => K i (.ret [.d (.int .i64 v)]) ⟨tabB (pB s (a + n)), 2, []⟩) r)
  (hsoft : ∀ v n, numS most (s.data.toList.drop a) = .ok v n → digH (s.data.toList.drop (a + n)) = true → Evx (fun i => K i (.pan (wrongD (a + n))) ⟨tabB (pB s (a + n)), 2, []⟩) r)
  (hno : numS most (s.data.toList.drop a) = .no 0 → Evx (fun i => K i (.pan (wrongD a)) ⟨tabB (pB s a), 2, []⟩) r) :
  Evx (fun i => runQ (pr i) (i - c) Out (.fn (.func 102)) [.ptr 2 9 0, .d (.int .i64 most)] ⟨tabB (pB s a), 2, []⟩ (K i)) r := by
 apply Evx.enter; (conv=>arg 1;ext i;whnf)
 refine Evx.cq ([.ptr 3 2 0]) (pB3 s a) 3 ?_
 refine digitE s a ha ?_
 (conv=>arg 1;ext i;whnf)
 (refine Evx.bool (fun h => ?_) (fun h => ?_) <;> (try simp only [bbs] at h) <;> (first | (exfalso; omega) | exact absurd trivial h | (conv=>arg 1;ext i;whnf)))
 ·refine Evx.cq ([.ptr 2 9 0]) (pB s a) 2 ?_
  refine failE s a ?_
  (conv=>arg 1;ext i;whnf)
  exact Evx.fq ((hno (num_none h)))
 ·refine Evx.loopB hint102 6 (α := { p : Nat × Int // NumInv most (s.data.toList.drop a) p.1 p.2 }) (fun p => [some (.d (.int .i64 most)), some (.ptr 3 2 0), some (.fn (.func 108) [.ptr 3 2 0]), some (.d (.int .i64 p.1.2)), some (.d (.int .i64 a))]) (fun _ => [some ⟨[.ptr 2 9 0], false, (0, 0)⟩]) (fun p => pB s (a + p.1.1)) 3 [] (fun p => s.size - (a + p.1.1)) (fun _ => r) ?_ ⟨(0, 0), Nat.zero_le _, Int.le_refl _, by omega, .inl ⟨rfl, rfl, h⟩⟩ (fun _ => rfl) (fun _ => rfl) (fun _ => rfl) (fun _ => by kernel_rfl) (fun _ => ?_)
  ·rintro ⟨⟨i, n⟩, hi, hn0, hn1, hinv⟩ L ih; (conv=>arg 1;ext i;whnf)
   have hil : a + i ≤ s.size := by
    have := drop_len s a
    dsimp only at hi
    omega
   dsimp only at hi hn0 hn1 hinv
   refine Evx.cq ([.ptr 3 2 0]) (pB3 s (a + i)) 3 ?_
   refine digitE s (a + i) hil ?_
   (conv=>arg 1;ext i;whnf)
   rw [← List.drop_drop] at *
   (refine Evx.bool (fun h => ?_) (fun h => ?_) <;> (try simp only [bbs] at h) <;> (first | (exfalso; omega) | exact absurd trivial h | (conv=>arg 1;ext i;whnf)))
   ·obtain ⟨d, rr, hl, hdg⟩ := digH_cons (by assumption : digH ((s.data.toList.drop a).drop i) = true)
    have hdd := dig_hd.1 hdg
    have hlt : a + i < s.size := by
     have := congrArg List.length hl
     rw [List.drop_drop, drop_len, List.length_cons] at this
     omega
    (refine Evx.bool (fun h => ?_) (fun h => ?_) <;> (try simp only [bbs] at h) <;> (first | (exfalso; omega) | exact absurd trivial h | (conv=>arg 1;ext i;whnf)))
    ·have hi0 : i = 0 := by omega
     refine Evx.int (n' := n * 10) (by dsimp only; rw [wrap_small] <;> omega) ?_
     (conv=>arg 1;ext i;whnf)
     refine Evx.cq ([.ptr 2 9 0]) (pB s (a + i)) 2 ?_
     refine peekE s (a + i) hil ?_
     have ehd : hd (s.data.toList.drop (a + i)) = d.toNat := by rw [← List.drop_drop, hl]; rfl
     (conv=>arg 1;ext i;whnf)
     refine Evx.int (n' := (d.toNat : Int) - 48) (by rw [ehd]; exact wrap_u8 (by omega) (by omega)) ?_
     (conv=>arg 1;ext i;whnf)
     refine Evx.int (n' := (d.toNat : Int) - 48) (by rw [wrap_small] <;> omega) ?_
     (conv=>arg 1;ext i;whnf)
     refine Evx.int (n' := n * 10 + ((d.toNat : Int) - 48)) (by rw [wrap_small] <;> omega) ?_
     (conv=>arg 1;ext i;whnf)
     (refine Evx.bool (fun h => ?_) (fun h => ?_) <;> (try simp only [bbs] at h) <;> (first | (exfalso; omega) | exact absurd trivial h | (conv=>arg 1;ext i;whnf)))
     refine Evx.int (n' := ((a + (i + 1) : Nat) : Int)) (by rw [wrap_small] <;> omega) ?_
     (conv=>arg 1;ext i;whnf)
     refine ih ⟨(i + 1, n * 10 + ((d.toNat : Int) - 48)), num_step ⟨hi, hn0, hn1, hinv⟩ hl hdg (.inl hi0) (by omega)⟩ _ (by dsimp only; omega) (fun _ => by kernel_rfl) (fun _ => ?_)
     exact tabC
    ·(refine Evx.bool (fun h => ?_) (fun h => ?_) <;> (try simp only [bbs] at h) <;> (first | (exfalso; omega) | exact absurd trivial h | (conv=>arg 1;ext i;whnf)))
     ·have hn1' : 0 < n := by omega
      refine Evx.int (n' := n * 10) (by dsimp only; rw [wrap_small] <;> omega) ?_
      (conv=>arg 1;ext i;whnf)
      refine Evx.cq ([.ptr 2 9 0]) (pB s (a + i)) 2 ?_
      refine peekE s (a + i) hil ?_
      have ehd : hd (s.data.toList.drop (a + i)) = d.toNat := by rw [← List.drop_drop, hl]; rfl
      (conv=>arg 1;ext i;whnf)
      refine Evx.int (n' := (d.toNat : Int) - 48) (by rw [ehd]; exact wrap_u8 (by omega) (by omega)) ?_
      (conv=>arg 1;ext i;whnf)
      refine Evx.int (n' := (d.toNat : Int) - 48) (by rw [wrap_small] <;> omega) ?_
      (conv=>arg 1;ext i;whnf)
      refine Evx.int (n' := n * 10 + ((d.toNat : Int) - 48)) (by rw [wrap_small] <;> omega) ?_
      (conv=>arg 1;ext i;whnf)
      (refine Evx.bool (fun h => ?_) (fun h => ?_) <;> (try simp only [bbs] at h) <;> (first | (exfalso; omega) | exact absurd trivial h | (conv=>arg 1;ext i;whnf)))
      ·refine Evx.cq ([.ptr 2 9 0]) (pB s (a + i)) 2 ?_
       refine failE s (a + i) ?_
       (conv=>arg 1;ext i;whnf)
       exact Evx.fq ((hsoft n i (num_over ⟨hi, hn0, hn1, hinv⟩ hl hdg (.inr hn1') h9 (by omega)) (by rw [← List.drop_drop, hl]; exact hdg)))
      ·refine Evx.int (n' := ((a + (i + 1) : Nat) : Int)) (by rw [wrap_small] <;> omega) ?_
       (conv=>arg 1;ext i;whnf)
       refine ih ⟨(i + 1, n * 10 + ((d.toNat : Int) - 48)), num_step ⟨hi, hn0, hn1, hinv⟩ hl hdg (.inr hn1') (by omega)⟩ _ (by dsimp only; omega) (fun _ => by kernel_rfl) (fun _ => ?_)
       exact tabC
     ·exact Evx.fq ((hok n i (num_stop ⟨hi, hn0, hn1, hinv⟩ (fun hc => by omega))))
   ·have hnd : digH ((s.data.toList.drop a).drop i) = false := by assumption
    exact Evx.fq ((hok n i (num_stop ⟨hi, hn0, hn1, hinv⟩ (fun hc => by rw [hnd] at hc; cases hc.1))))
  ·exact tabC
theorem endE (s : ByteArray) (hs : s.size < 2 ^ 30) (a : Nat) (ha : a ≤ s.size) {c : Nat} {K : Nat → Out → G → Option Out} {r : Out}
  (hok : ∀ v n, endS (s.data.toList.drop a) = .ok v n → Evx (fun i => K i (.ret [.d (.int .i64 v)]) ⟨tabB (pB s (a + n)), 2, []⟩) r)
  (hsoft : ∀ v n, endS (s.data.toList.drop a) = .ok v n → digH (s.data.toList.drop (a + n)) = true → Evx (fun i => K i (.pan (wrongD (a + n))) ⟨tabB (pB s (a + n)), 2, []⟩) r)
  (hno : ∀ n, endS (s.data.toList.drop a) = .no n → Evx (fun i => K i (.pan (wrongD (a + n))) ⟨tabB (pB s (a + n)), 2, []⟩) r) :
  Evx (fun i => runQ (pr i) (i - c) Out (.fn (.func 81)) [.ptr 2 9 0] ⟨tabB (pB s a), 2, []⟩ (K i)) r := by
 apply Evx.enter; (conv=>arg 1;ext i;whnf)
 refine Evx.cq ([.ptr 2 9 0]) (pB s a) 2 ?_
 refine peekE s a ha ?_
 (conv=>arg 1;ext i;whnf)
 (refine Evx.bool (fun h => ?_) (fun h => ?_) <;> (try simp only [bbs] at h) <;> (first | (exfalso; omega) | exact absurd trivial h | (conv=>arg 1;ext i;whnf)))
 ·have he : endS (s.data.toList.drop a) = mapP (fun _ => -1) (litS [45, 49] (s.data.toList.drop a)) := if_pos (by omega)
  refine Evx.cq ([.ptr 2 9 0, .d (.str (bts [45, 49]))]) (pB s a) 2 ?_
  refine litE s hs [45, 49] (by simp) a ha (fun n hn => ?_) (fun n hn => ?_)
  ·(conv=>arg 1;ext i;whnf)
   exact Evx.fq ((hok (-1) n (by rw [he, hn]; rfl)))
  ·(conv=>arg 1;ext i;whnf)
   exact Evx.fq ((hno n (by rw [he, hn]; rfl)))
 ·have he : endS (s.data.toList.drop a) = numS 1439999999 (s.data.toList.drop a) := if_neg (by omega)
  rw [he] at hok hsoft hno
  refine Evx.cq ([.ptr 2 9 0, .d (.int .i64 1439999999)]) (pB s a) 2 ?_
  refine numE s hs a ha 1439999999 (by omega) (by omega) (fun v n hn => ?_) (fun v n hn hd => ?_) (fun hn => ?_)
  ·(conv=>arg 1;ext i;whnf)
   exact Evx.fq ((hok v n hn))
  ·(conv=>arg 1;ext i;whnf)
   exact Evx.fq ((hsoft v n hn hd))
  ·(conv=>arg 1;ext i;whnf)
   exact Evx.fq ((hno 0 hn))
theorem refE (s : ByteArray) (hs : s.size < 2 ^ 30) (a : Nat) (ha : a ≤ s.size) (d : Int) (hd0 : 0 ≤ d) (hd1 : d < 2 ^ 40) {c : Nat} {K : Nat → Out → G → Option Out} {r : Out}
  (hok : ∀ v n, refS d (s.data.toList.drop a) = .ok v n → Evx (fun i => K i (.ret [.d v.d]) ⟨tabB (pB s (a + n)), 2, []⟩) r)
  (hsoft : ∀ v n, refS d (s.data.toList.drop a) = .ok v n → digH (s.data.toList.drop (a + n)) = true → Evx (fun i => K i (.pan (wrongD (a + n))) ⟨tabB (pB s (a + n)), 2, []⟩) r)
  (hno : ∀ n, refS d (s.data.toList.drop a) = .no n → Evx (fun i => K i (.pan (wrongD (a + n))) ⟨tabB (pB s (a + n)), 2, []⟩) r) :
  Evx (fun i => runQ (pr i) (i - c) Out (.fn (.func 100)) [.ptr 2 9 0, .d (.int .i64 d)] ⟨tabB (pB s a), 2, []⟩ (K i)) r := by
 have up1 : ∀ {x : Rd Rf} {v : Rf} {n : Nat}, x = .ok v n → x.up 1 = .ok v (1 + n) := fun h => by rw [h]; rfl
 have up0 : ∀ {x : Rd Rf} {n : Nat}, x = .no n → x.up 1 = .no (1 + n) := fun h => by rw [h]; rfl
 apply Evx.enter; (conv=>arg 1;ext i;whnf)
 refine Evx.cq ([.ptr 2 9 0]) (pB s a) 2 ?_
 refine peekE s a ha ?_
 (conv=>arg 1;ext i;whnf)
 (refine Evx.bool (fun h => ?_) (fun h => ?_) <;> (try simp only [bbs] at h) <;> (first | (exfalso; omega) | exact absurd trivial h | (conv=>arg 1;ext i;whnf)))
 ·obtain ⟨e, _, hde⟩ := byte_at (s := s) (a := a) (by
   by_cases hlt : a < s.size
   ·exact hlt
   ·have := hd_end (s := s) (a := a) (by omega); omega)
  have hlt : a < s.size := by
   have := congrArg List.length hde
   rw [drop_len, List.length_cons] at this
   omega
  have he : refS d (s.data.toList.drop a) = (mapP (fun n => (⟨1, n, ⟨#[]⟩⟩ : Rf)) (numS (1099511627775 + d) (s.data.toList.drop (a + 1)))).up 1 := by
   unfold refS; rw [if_pos (by omega), List.drop_drop]
  rw [he] at hok hsoft hno
  refine Evx.int (n' := ((a + 1 : Nat) : Int)) (by rw [wrap_small] <;> omega) ?_
  (conv=>arg 1;ext i;whnf)
  refine Evx.int (n' := 1099511627775 + d) (by rw [wrap_small] <;> omega) ?_
  (conv=>arg 1;ext i;whnf)
  refine Evx.cq ([.ptr 2 9 0, .d (.int .i64 (1099511627775 + d))]) (pB s (a + 1)) 2 ?_
  refine numE s hs (a + 1) (by omega) _ (by omega) (by omega) (fun v n hn => ?_) (fun v n hn hd => ?_) (fun hn => ?_)
  ·have hK := hok _ _ (up1 (by rw [hn]; rfl))
   rw [← Nat.add_assoc] at hK
   (conv=>arg 1;ext i;whnf)
   exact Evx.fq (hK)
  ·have hK := hsoft _ _ (up1 (by rw [hn]; rfl)) (by rw [← Nat.add_assoc]; exact hd)
   rw [← Nat.add_assoc] at hK
   (conv=>arg 1;ext i;whnf)
   exact Evx.fq (hK)
  ·have hK := hno _ (up0 (by rw [hn]; rfl))
   (conv=>arg 1;ext i;whnf)
   exact Evx.fq (hK)
 ·(refine Evx.bool (fun h => ?_) (fun h => ?_) <;> (try simp only [bbs] at h) <;> (first | (exfalso; omega) | exact absurd trivial h | (conv=>arg 1;ext i;whnf)))
  ·obtain ⟨e, _, hde⟩ := byte_at (s := s) (a := a) (by
    by_cases hlt : a < s.size
    ·exact hlt
    ·have := hd_end (s := s) (a := a) (by omega); omega)
   have hlt : a < s.size := by
    have := congrArg List.length hde
    rw [drop_len, List.length_cons] at this
    omega
   have he : refS d (s.data.toList.drop a) = (mapP (fun n => (⟨3, n, ⟨#[]⟩⟩ : Rf)) (numS 1439999999 (s.data.toList.drop (a + 1)))).up 1 := by
    unfold refS; rw [if_neg (by omega), if_pos (by omega), List.drop_drop]
   rw [he] at hok hsoft hno
   refine Evx.int (n' := ((a + 1 : Nat) : Int)) (by rw [wrap_small] <;> omega) ?_
   (conv=>arg 1;ext i;whnf)
   refine Evx.cq ([.ptr 2 9 0, .d (.int .i64 1439999999)]) (pB s (a + 1)) 2 ?_
   refine numE s hs (a + 1) (by omega) _ (by omega) (by omega) (fun v n hn => ?_) (fun v n hn hd => ?_) (fun hn => ?_)
   ·have hK := hok _ _ (up1 (by rw [hn]; rfl))
    rw [← Nat.add_assoc] at hK
    (conv=>arg 1;ext i;whnf)
    exact Evx.fq (hK)
   ·have hK := hsoft _ _ (up1 (by rw [hn]; rfl)) (by rw [← Nat.add_assoc]; exact hd)
    rw [← Nat.add_assoc] at hK
    (conv=>arg 1;ext i;whnf)
    exact Evx.fq (hK)
   ·have hK := hno _ (up0 (by rw [hn]; rfl))
    (conv=>arg 1;ext i;whnf)
    exact Evx.fq (hK)
  ·have num : 48 ≤ hd (s.data.toList.drop a) ∧ hd (s.data.toList.drop a) ≤ 57 → refS d (s.data.toList.drop a) = mapP (fun n => (⟨4, n, ⟨#[]⟩⟩ : Rf)) (numS 1099511627776 (s.data.toList.drop a)) := fun h => by
    unfold refS; rw [if_neg (by omega), if_neg (by omega), if_pos h]
   have sym : ¬ (48 ≤ hd (s.data.toList.drop a) ∧ hd (s.data.toList.drop a) ≤ 57) → refS d (s.data.toList.drop a) = mapP (fun s => (⟨2, 0, bts s⟩ : Rf)) (symS (s.data.toList.drop a)) := fun h => by
    unfold refS; rw [if_neg (by omega), if_neg (by omega), if_neg h]
   (refine Evx.bool (fun h => ?_) (fun h => ?_) <;> (try simp only [bbs] at h) <;> (first | (exfalso; omega) | exact absurd trivial h | (conv=>arg 1;ext i;whnf)))
   ·(refine Evx.bool (fun h => ?_) (fun h => ?_) <;> (try simp only [bbs] at h) <;> (first | (exfalso; omega) | exact absurd trivial h | (conv=>arg 1;ext i;whnf)))
    ·have he := num (by omega)
     rw [he] at hok hsoft hno
     refine Evx.cq ([.ptr 2 9 0, .d (.int .i64 1099511627776)]) (pB s a) 2 ?_
     refine numE s hs a ha _ (by omega) (by omega) (fun v n hn => ?_) (fun v n hn hd => ?_) (fun hn => ?_)
     ·have hK := hok _ _ (by rw [hn]; rfl)
      (conv=>arg 1;ext i;whnf)
      exact Evx.fq (hK)
     ·have hK := hsoft _ _ (by rw [hn]; rfl) hd
      (conv=>arg 1;ext i;whnf)
      exact Evx.fq (hK)
     ·have hK := hno 0 (by rw [hn]; rfl)
      (conv=>arg 1;ext i;whnf)
      exact Evx.fq (hK)
    ·have he := sym (by omega)
     rw [he] at hok hsoft hno
     refine Evx.cq ([.ptr 2 9 0]) (pB s a) 2 ?_
     refine symE s hs a ha (fun v n hn => ?_) (fun hn => ?_)
     ·have hK := hok _ _ (by rw [hn]; rfl)
      (conv=>arg 1;ext i;whnf)
      exact Evx.fq (hK)
     ·have hK := hno 0 (by rw [hn]; rfl)
      (conv=>arg 1;ext i;whnf)
      exact Evx.fq (hK)
   ·have he := sym (by omega)
    rw [he] at hok hsoft hno
    refine Evx.cq ([.ptr 2 9 0]) (pB s a) 2 ?_
    refine symE s hs a ha (fun v n hn => ?_) (fun hn => ?_)
    ·have hK := hok _ _ (by rw [hn]; rfl)
     (conv=>arg 1;ext i;whnf)
     exact Evx.fq (hK)
    ·have hK := hno 0 (by rw [hn]; rfl)
     (conv=>arg 1;ext i;whnf)
     exact Evx.fq (hK)
end Go.Proofs.YtehkgiofchmpaaaDoor
namespace Go.Proofs.YtehkgiofchmpaaaDoor
open Go Go.Abs Go.Abs.Asks
set_option linter.unusedVariables false
set_option linter.unusedSimpArgs false
set_option linter.unusedSectionVars false
variable [Asks]
def aT (s : ByteArray) (a : Nat) (x : Box) : List ((Nat × Nat) × Box) := pB s a ++ [((3, 4), zeroBox), ((3, 5), x)]
def rfC (r : Rf) : List D := [.int .i64 r.kind, .int .i64 r.idx, .str r.nm]
theorem refs_one (zs : List Rf) (v : Rf) : refs (zs ++ [v]) = refs zs ++ [rfC v] := by rw [refs_app]; rfl
def atBox (nm : List UInt8) (zs : List (List D)) : Box := ⟨[.d (.int .i64 3), .d (.str (bts nm)), .own (.box 3 5 2) 3 zs, .d (.int .i64 0), .d (.int .i64 0), .d .nils], false, (0, 0)⟩
theorem args_succ (d : Int) (k : Nat) (l : List UInt8) : argsS d (k + 1) l = thenP (refS d l) (fun r l => if hd l ≠ 44 ∨ k = 0 then mapP (fun _ => [r]) (litS [41] l) else thenP (litS [44, 32] l) (fun _ l => mapP (fun rs => r :: rs) (argsS d k l)) l) l := rfl
theorem args_id (x : Rd (List Rf)) : mapP (fun rs => [] ++ rs) x = x := by cases x <;> rfl
set_option maxHeartbeats 4000000 in
theorem atomE (s : ByteArray) (hs : s.size < 2 ^ 30) (a : Nat) (ha : a ≤ s.size) (d : Int) (hd0 : 0 ≤ d) (hd1 : d < 2 ^ 40) {c : Nat} {K : Nat → Out → G → Option Out} {r : Out}
  (hok : ∀ v n, atomS d (s.data.toList.drop a) = .ok v n → Evx (fun i => K i (.ret [.d v.d]) ⟨tabB (pB s (a + n)), 2, []⟩) r)
  (hno : ∀ n, atomS d (s.data.toList.drop a) = .no n → Evx (fun i => K i (.pan (wrongD (a + n))) ⟨tabB (pB s (a + n)), 2, []⟩) r) :
  Evx (fun i => runQ (pr i) (i - c) Out (.fn (.func 77)) [.ptr 2 9 0, .d (.int .i64 d)] ⟨tabB (pB s a), 2, []⟩ (K i)) r := by
 unfold atomS at hok hno
 apply Evx.enter; (conv=>arg 1;ext i;whnf)
 refine Evx.cq ([.ptr 2 9 0]) (pB s a) 2 ?_
 refine symE s hs a ha (fun nm n1 h1 => ?_) (fun h1 => ?_)
 ·have hn1 := (sym_len (s.data.toList.drop a)).1
  rw [h1, drop_len] at hn1
  have hn1 : n1 ≤ s.size - a := hn1
  rw [thenOk h1, List.drop_drop] at hok hno
  refine Evx.tk (pB s (a + n1) ++ [((3, 4), zeroBox)]) 3 ?_
  (conv=>arg 1;ext i;whnf)
  refine Evx.cq ([.ptr 2 9 0, .d (.str (bts [40]))]) (pB s (a + n1)) 2 ?_
  refine litE s hs [40] (by simp) (a + n1) (by omega) (fun n2 h2 => ?_) (fun n2 h2 => ?_)
  ·have hn2 := (lit_len [40] (s.data.toList.drop (a + n1))).1
   rw [h2, drop_len] at hn2
   have hn2 : n2 ≤ s.size - (a + n1) := hn2
   rw [thenOk h2, List.drop_drop] at hok hno
   refine Evx.tk (aT s (a + n1 + n2) ⟨[.d (.int .i64 3), .d (.str (bts nm)), .d .nils, .d (.int .i64 0), .d (.int .i64 0), .d .nils], false, (0, 0)⟩) 3 ?_
   (conv=>arg 1;ext i;whnf)
   have hok' : ∀ zs n, argsS d 3 (s.data.toList.drop (a + n1 + n2)) = .ok zs n → Evx (fun i => K i (.ret [.d (Fm.node 3 (bts nm) zs 0 0 []).d]) ⟨tabB (pB s (a + n1 + n2 + n)), 2, []⟩) r := fun zs n h => by
    have := hok (Fm.node 3 (bts nm) zs 0 0 []) (n1 + (n2 + n)) (by rw [h]; rfl)
    rwa [← Nat.add_assoc, ← Nat.add_assoc] at this
   have hno' : ∀ n, argsS d 3 (s.data.toList.drop (a + n1 + n2)) = .no n → Evx (fun i => K i (.pan (wrongD (a + n1 + n2 + n))) ⟨tabB (pB s (a + n1 + n2 + n)), 2, []⟩) r := fun n h => by
    have := hno (n1 + (n2 + n)) (by rw [h]; rfl)
    rwa [← Nat.add_assoc, ← Nat.add_assoc] at this
   clear hok hno
   obtain ⟨b, hb⟩ : ∃ b, b = a + n1 + n2 := ⟨_, rfl⟩
   rw [← hb] at hok' hno' ⊢
   have hbs : b ≤ s.size := by omega
   refine Evx.loopB hint77 3 (α := { p : List Rf × Nat // p.1.length ≤ 2 ∧ b + p.2 ≤ s.size ∧ argsS d 3 (s.data.toList.drop b) = (mapP (fun rs => p.1 ++ rs) (argsS d (3 - p.1.length) (s.data.toList.drop (b + p.2)))).up p.2 }) (fun _ => [some (.ptr 2 9 0), some (.d (.int .i64 d)), some (.ptr 3 4 0), some (.ptr 3 5 0)]) (fun p => [some zeroBox, some (atBox nm (refs p.1.1))]) (fun p => pB s (b + p.1.2)) 3 [] (fun p => 3 - p.1.1.length) (fun _ => r) ?_ ⟨([], 0), by simp, hbs, by dsimp only; rw [args_id, up_zero]; rfl⟩ (fun _ => rfl) (fun _ => rfl) (fun _ => rfl) (fun _ => by kernel_rfl) (fun _ => ?_)
   ·rintro ⟨⟨zs, j⟩, hl, hj, hinv⟩ L ih; (conv=>arg 1;ext i;whnf)
    dsimp only at hl hj hinv
    obtain ⟨k, hk⟩ : ∃ k, 3 - zs.length = k + 1 := ⟨2 - zs.length, by omega⟩
    rw [hk, args_succ d k (s.data.toList.drop (b + j))] at hinv
    refine Evx.cq ([.ptr 2 9 0, .d (.int .i64 d)]) (pB s (b + j)) 2 ?_
    refine refE s hs (b + j) hj d hd0 hd1 (fun v n3 h3 => ?_) (fun v n3 h3 hdig => ?_) (fun n3 h3 => ?_)
    ·have hn3 := (ref_len d (s.data.toList.drop (b + j))).1
     rw [h3, drop_len] at hn3
     have hn3 : n3 ≤ s.size - (b + j) := hn3
     rw [thenOk h3, List.drop_drop] at hinv
     refine Evx.tk (aT s (b + j + n3) (atBox nm (refs zs))) 3 ?_
     (conv=>arg 1;ext i;whnf)
     refine Evx.appd (m := ((refs zs).length + 1) * 33) rfl (by rw [refs_len]; omega) ?_
     (conv=>arg 1;ext i;whnf)
     refine Evx.cq ([.ptr 2 9 0]) (pB s (b + j + n3)) 2 ?_
     refine peekE s (b + j + n3) (by omega) ?_
     refine Evx.tk (aT s (b + j + n3) (atBox nm (refs zs ++ [rfC v]))) 3 ?_
     (conv=>arg 1;ext i;whnf)
     have last : hd (s.data.toList.drop (b + j + n3)) ≠ 44 ∨ k = 0 → argsS d 3 (s.data.toList.drop b) = (mapP (fun rs => zs ++ rs) ((mapP (fun _ => [v]) (litS [41] (s.data.toList.drop (b + j + n3)))).up n3)).up j := fun h => by
      rw [hinv, if_pos h]
     have more : ¬ (hd (s.data.toList.drop (b + j + n3)) ≠ 44 ∨ k = 0) → argsS d 3 (s.data.toList.drop b) = (mapP (fun rs => zs ++ rs) ((thenP (litS [44, 32] (s.data.toList.drop (b + j + n3))) (fun _ l => mapP (fun rs => v :: rs) (argsS d k l)) (s.data.toList.drop (b + j + n3))).up n3)).up j := fun h => by
      rw [hinv, if_neg h]
     (refine Evx.bool (fun h => ?_) (fun h => ?_) <;> (try simp only [bbs] at h) <;> (first | (exfalso; omega) | exact absurd trivial h | (conv=>arg 1;ext i;whnf)))
     ·have hlast := last (.inl (by omega))
      refine Evx.cq ([.ptr 2 9 0, .d (.str (bts [41]))]) (pB s (b + j + n3)) 2 ?_
      refine litE s hs [41] (by simp) (b + j + n3) (by omega) (fun n4 h4 => ?_) (fun n4 h4 => ?_)
      ·have hK := hok' (zs ++ [v]) (j + n3 + n4) (by rw [hlast, h4]; simp [mapP, Rd.up, Nat.add_assoc])
       unfold Fm.d at hK
       simp only [as_node] at hK
       rw [refs_one] at hK
       rw [← Nat.add_assoc, ← Nat.add_assoc] at hK
       refine Evx.tk (aT s (b + j + n3 + n4) (atBox nm (refs zs ++ [rfC v]))) 3 ?_
       (conv=>arg 1;ext i;whnf)
       exact Evx.fq (hK)
      ·have hK := hno' (j + n3 + n4) (by rw [hlast, h4]; simp [mapP, Rd.up, Nat.add_assoc])
       rw [← Nat.add_assoc, ← Nat.add_assoc] at hK
       (conv=>arg 1;ext i;whnf)
       exact Evx.fq (hK)
     ·(refine Evx.bool (fun h => ?_) (fun h => ?_) <;> (try simp only [bbs] at h) <;> (first | (exfalso; omega) | exact absurd trivial h | (conv=>arg 1;ext i;whnf)))
      ·have hlast := last (.inr (by have hrl := refs_len zs; first | omega | (simp at *; omega)))
       refine Evx.cq ([.ptr 2 9 0, .d (.str (bts [41]))]) (pB s (b + j + n3)) 2 ?_
       refine litE s hs [41] (by simp) (b + j + n3) (by omega) (fun n4 h4 => ?_) (fun n4 h4 => ?_)
       ·have hK := hok' (zs ++ [v]) (j + n3 + n4) (by rw [hlast, h4]; simp [mapP, Rd.up, Nat.add_assoc])
        unfold Fm.d at hK
        simp only [as_node] at hK
        rw [refs_one] at hK
        rw [← Nat.add_assoc, ← Nat.add_assoc] at hK
        refine Evx.tk (aT s (b + j + n3 + n4) (atBox nm (refs zs ++ [rfC v]))) 3 ?_
        (conv=>arg 1;ext i;whnf)
        exact Evx.fq (hK)
       ·have hK := hno' (j + n3 + n4) (by rw [hlast, h4]; simp [mapP, Rd.up, Nat.add_assoc])
        rw [← Nat.add_assoc, ← Nat.add_assoc] at hK
        (conv=>arg 1;ext i;whnf)
        exact Evx.fq (hK)
      ·have hmore := more (by have hrl := refs_len zs; first | omega | (simp at *; omega))
       refine Evx.cq ([.ptr 2 9 0, .d (.str (bts [44, 32]))]) (pB s (b + j + n3)) 2 ?_
       refine litE s hs [44, 32] (by simp) (b + j + n3) (by omega) (fun n4 h4 => ?_) (fun n4 h4 => ?_)
       ·have hn4 := (lit_len [44, 32] (s.data.toList.drop (b + j + n3))).1
        rw [h4, drop_len] at hn4
        have hn4 : n4 ≤ s.size - (b + j + n3) := hn4
        rw [thenOk h4, List.drop_drop] at hmore
        refine Evx.tk (aT s (b + j + n3 + n4) (atBox nm (refs zs ++ [rfC v]))) 3 ?_
        (conv=>arg 1;ext i;whnf)
        refine ih ⟨(zs ++ [v], j + n3 + n4), ?_, ?_, ?_⟩ _ ?_ ?_ (fun _ => ?_)
        ·have hrl := refs_len zs; rw [List.length_append, List.length_singleton]; first | omega | (simp at *; omega)
        ·dsimp only; omega
        ·dsimp only
         rw [hmore, List.length_append, List.length_singleton, show 3 - (zs.length + 1) = k by omega, show b + (j + n3 + n4) = b + j + n3 + n4 by omega]
         cases argsS d k (s.data.toList.drop (b + j + n3 + n4)) <;> simp [mapP, Rd.up, Nat.add_assoc]
        ·dsimp only; rw [List.length_append, List.length_singleton]; omega
        ·intro i
         rw [refs_one]
         kernel_rfl
        ·rw [show b + (j + n3 + n4) = b + j + n3 + n4 by omega]
         exact tabC
       ·have hK := hno' (j + n3 + n4) (by rw [hmore, thenNo h4]; simp [mapP, Rd.up, Nat.add_assoc])
        rw [← Nat.add_assoc, ← Nat.add_assoc] at hK
        (conv=>arg 1;ext i;whnf)
        exact Evx.fq (hK)
    ·have hnd : hd (s.data.toList.drop (b + j + n3)) ≠ 44 := by
      obtain ⟨c, r, e, hc⟩ := digH_cons hdig
      have := dig_hd.1 hc
      rw [e]; simp only [hd]; omega
     have h0 : litS [41] (s.data.toList.drop (b + j + n3)) = .no 0 := by
      obtain ⟨c, r, e, hc⟩ := digH_cons hdig
      have := dig_hd.1 hc
      rw [e]; simp only [litS]
      rw [if_neg (fun e => by subst e; simp at this)]
     have hK := hno' (j + n3) (by rw [hinv, thenOk h3, List.drop_drop, if_pos (.inl hnd), h0]; simp [mapP, Rd.up])
     rw [← Nat.add_assoc] at hK
     (conv=>arg 1;ext i;whnf)
     exact Evx.fq (hK)
    ·have hK := hno' (j + n3) (by rw [hinv, thenNo h3]; rfl)
     rw [← Nat.add_assoc] at hK
     (conv=>arg 1;ext i;whnf)
     exact Evx.fq (hK)
   ·exact tabC
  ·have hK := hno _ (by rw [thenNo h2]; rfl)
   rw [← Nat.add_assoc] at hK
   (conv=>arg 1;ext i;whnf)
   exact Evx.fq (hK)
 ·have hK := hno 0 (by rw [thenNo h1])
  (conv=>arg 1;ext i;whnf)
  exact Evx.fq (hK)
end Go.Proofs.YtehkgiofchmpaaaDoor
namespace Go.Proofs.YtehkgiofchmpaaaDoor
open Go Go.Abs Go.Abs.Asks
set_option linter.unusedVariables false
set_option linter.unusedSimpArgs false
set_option linter.unusedSectionVars false
theorem words_at {k : Nat} (h1 : 1 ≤ k) (h2 : k ≤ 12) : words.drop (k - 1) = ((k : Int), wordOf k) :: words.drop k := by
 have : k = 1 ∨ k = 2 ∨ k = 3 ∨ k = 4 ∨ k = 5 ∨ k = 6 ∨ k = 7 ∨ k = 8 ∨ k = 9 ∨ k = 10 ∨ k = 11 ∨ k = 12 := by omega
 rcases this with rfl | rfl | rfl | rfl | rfl | rfl | rfl | rfl | rfl | rfl | rfl | rfl <;> rfl
theorem word_len {k : Nat} (h1 : 1 ≤ k) (h2 : k ≤ 12) : (wordOf k).length ≤ 9 := by
 have : k = 1 ∨ k = 2 ∨ k = 3 ∨ k = 4 ∨ k = 5 ∨ k = 6 ∨ k = 7 ∨ k = 8 ∨ k = 9 ∨ k = 10 ∨ k = 11 ∨ k = 12 := by omega
 rcases this with rfl | rfl | rfl | rfl | rfl | rfl | rfl | rfl | rfl | rfl | rfl | rfl <;> decide
theorem lcp_step {w l : List UInt8} {n : Nat} {c : UInt8} {w' l' : List UInt8} (h : lcp w l = n + lcp (w.drop n) (l.drop n)) (hw : w.drop n = c :: w') (hl : l.drop n = c :: l') : lcp w l = (n + 1) + lcp (w.drop (n + 1)) (l.drop (n + 1)) := by
 have e1 : w.drop (n + 1) = w' := by rw [← List.drop_drop, hw]; rfl
 have e2 : l.drop (n + 1) = l' := by rw [← List.drop_drop, hl]; rfl
 rw [h, hw, hl, e1, e2]
 simp only [lcp, if_true]
 omega
variable [Asks]
theorem keyword_ev (k : Nat) (h1 : 1 ≤ k) (h2 : k ≤ 12) : Ev pr 72 [.int .i64 (k : Int)] (.ret [.d (.str (bts (wordOf k)))]) := by
 have : k = 1 ∨ k = 2 ∨ k = 3 ∨ k = 4 ∨ k = 5 ∨ k = 6 ∨ k = 7 ∨ k = 8 ∨ k = 9 ∨ k = 10 ∨ k = 11 ∨ k = 12 := by omega
 rcases this with rfl | rfl | rfl | rfl | rfl | rfl | rfl | rfl | rfl | rfl | rfl | rfl
 all_goals (apply Ev.enter; intro c; (conv=>arg 1;ext i;whnf); repeat' (first | refine Evx.pure ?_ | (refine Evx.bool (fun h => ?_) (fun h => ?_) <;> (try simp only [bbs] at h) <;> (first | (exfalso; omega) | exact absurd trivial h | (conv=>arg 1;ext i;whnf)))))
 all_goals first | rfl | (exfalso; omega) | (exfalso; simp at *; done)
theorem opE (s : ByteArray) (hs : s.size < 2 ^ 30) (a : Nat) (ha : a ≤ s.size) {c : Nat} {K : Nat → Out → G → Option Out} {r : Out}
  (hok : ∀ v n, opS (s.data.toList.drop a) = .ok v n → Evx (fun i => K i (.ret [.d (.int .i64 v)]) ⟨tabB (pB s (a + n)), 2, []⟩) r)
  (hno : ∀ n, opS (s.data.toList.drop a) = .no n → Evx (fun i => K i (.pan (wrongD (a + n))) ⟨tabB (pB s (a + n)), 2, []⟩) r) :
  Evx (fun i => runQ (pr i) (i - c) Out (.fn (.func 78)) [.ptr 2 9 0] ⟨tabB (pB s a), 2, []⟩ (K i)) r := by
 apply Evx.enter; (conv=>arg 1;ext i;whnf)
 refine Evx.loopB hint78 3 (α := { p : Nat × Nat // 1 ≤ p.1 ∧ p.1 ≤ 13 ∧ p.2 ≤ (s.data.toList.drop a).length ∧ opS (s.data.toList.drop a) = opGo (words.drop (p.1 - 1)) p.2 (s.data.toList.drop a) }) (fun p => [some (.ptr 2 9 0), some (.d (.int .i64 (p.1.2 : Nat))), some (.d (.int .i64 (p.1.1 : Nat)))]) (fun _ => []) (fun _ => pB s a) 3 [] (fun p => 13 - p.1.1) (fun _ => r) ?_ ⟨(1, 0), by simp, by simp, Nat.zero_le _, rfl⟩ (fun _ => rfl) (fun _ => rfl) (fun _ => rfl) (fun _ => by kernel_rfl) (fun _ => ?_)
 ·rintro ⟨⟨k, best⟩, h1, h2, hbest, hinv⟩ L ih; dsimp only at h1 h2 hbest hinv ih ⊢; (conv=>arg 1;ext i;whnf)
  rw [drop_len] at hbest
  (refine Evx.bool (fun h => ?_) (fun h => ?_) <;> (try simp only [bbs] at h) <;> (first | (exfalso; omega) | exact absurd trivial h | (conv=>arg 1;ext i;whnf)))
  ·have hk : k ≤ 12 := by omega
   have hwl := word_len h1 hk
   have hle := lcp_le (wordOf k) (s.data.toList.drop a)
   rw [drop_len] at hle
   rw [words_at h1 hk] at hinv
   refine Evx.call (keyword_ev k h1 hk) ?_
   (conv=>arg 1;ext i;whnf)
   refine Evx.loopB hint78 7 (α := { n : Nat // n ≤ (wordOf k).length ∧ a + n ≤ s.size ∧ lcp (wordOf k) (s.data.toList.drop a) = n + lcp ((wordOf k).drop n) (s.data.toList.drop (a + n)) }) (fun n => [some (.ptr 2 9 0), some (.d (.int .i64 (best : Nat))), some (.d (.int .i64 (k : Nat))), some (.d (.str (bts (wordOf k)))), some (.d (.int .i64 (n.1 : Nat)))]) (fun _ => []) (fun _ => pB s a) 3 [] (fun n => (wordOf k).length - n.1) (fun _ => r) ?_ ⟨0, Nat.zero_le _, ha, by simp⟩ (fun _ => rfl) (fun _ => rfl) (fun _ => rfl) (fun _ => by kernel_rfl) (fun _ => ?_)
   ·rintro ⟨n, hn, han, hlcp⟩ L2 ih2; dsimp only at ih2 ⊢; (conv=>arg 1;ext i;whnf)
    have stop : (∀ c w' l', (wordOf k).drop n = c :: w' → s.data.toList.drop (a + n) = c :: l' → False) → lcp (wordOf k) (s.data.toList.drop a) = n := fun hx => by
     rw [hlcp]
     cases hw : (wordOf k).drop n with
     | nil => simp [lcp]
     | cons c w' =>
      cases hl : s.data.toList.drop (a + n) with
      | nil => simp [lcp]
      | cons d l' =>
       simp only [lcp]
       rw [if_neg (fun e => hx c w' l' hw (by rw [hl, e]))]
       rfl
    have hbz := bts_size (wordOf k)
    (refine Evx.bool (fun h => ?_) (fun h => ?_) <;> (try simp only [bbs] at h) <;> (first | (exfalso; omega) | exact absurd trivial h | (conv=>arg 1;ext i;whnf)))
    ·refine Evx.int (n' := ((a + n : Nat) : Int)) (by (try dsimp only); rw [wrap_small] <;> omega) ?_
     (conv=>arg 1;ext i;whnf)
     (refine Evx.bool (fun h => ?_) (fun h => ?_) <;> (try simp only [bbs] at h) <;> (first | (exfalso; omega) | exact absurd trivial h | (conv=>arg 1;ext i;whnf)))
     ·obtain ⟨e, he⟩ := get_some (l := wordOf k) (i := n) (by omega)
      have hwe := bts_get he
      have hwd := drop_cons he
      obtain ⟨b, hb, hd⟩ := byte_at (s := s) (a := a + n) (by omega)
      refine Evx.int (n' := ((a + n : Nat) : Int)) (by (try dsimp only); rw [wrap_small] <;> omega) ?_
      (conv=>arg 1;ext i;whnf)
      refine Evx.chr rfl hb ?_
      (conv=>arg 1;ext i;whnf)
      refine Evx.chr rfl hwe ?_
      (conv=>arg 1;ext i;whnf)
      (refine Evx.bool (fun h => ?_) (fun h => ?_) <;> (try simp only [bbs] at h) <;> (first | (exfalso; omega) | exact absurd trivial h | (conv=>arg 1;ext i;whnf)))
      ·refine Evx.int (wrap_succ (n := n) (by omega)) ?_
       (conv=>arg 1;ext i;whnf)
       have hbe : b = e := UInt8.toNat_inj.1 (by omega)
       have hl2 := lcp_step (by rw [List.drop_drop]; exact hlcp) hwd (by rw [List.drop_drop, hd, hbe])
       rw [List.drop_drop] at hl2
       refine ih2 ⟨n + 1, by omega, by omega, hl2⟩ _ (by dsimp only; omega) (fun _ => by kernel_rfl) (fun _ => ?_)
       exact tabC
      ·have hl := stop (fun c w' l' q1 q2 => by
        rw [hwd] at q1
        rw [hd] at q2
        obtain ⟨rfl, _⟩ := List.cons.inj q1
        obtain ⟨rfl, _⟩ := List.cons.inj q2
        omega)
       (refine Evx.bool (fun h => ?_) (fun h => ?_) <;> (try simp only [bbs] at h) <;> (first | (exfalso; omega) | exact absurd trivial h | (conv=>arg 1;ext i;whnf)))
       refine Evx.int (n' := ((max best n : Nat) : Int)) (by simp only [extI]; split <;> simp_all <;> omega) ?_
       (conv=>arg 1;ext i;whnf)
       refine Evx.int (wrap_succ (n := k) (by omega)) ?_
       (conv=>arg 1;ext i;whnf)
       refine ih ⟨(k + 1, max best n), by omega, by omega, by rw [drop_len]; dsimp only; omega, ?_⟩ _ (by dsimp only; omega) (fun _ => by kernel_rfl) (fun _ => ?_)
       ·dsimp only
        rw [hinv]
        simp only [opGo, hl]
        rw [if_neg (by omega), Nat.add_sub_cancel]
       ·exact tabC
     ·have hl := stop (fun c w' l' q1 q2 => by
       rw [drop_end (by omega)] at q2; cases q2)
      (refine Evx.bool (fun h => ?_) (fun h => ?_) <;> (try simp only [bbs] at h) <;> (first | (exfalso; omega) | exact absurd trivial h | (conv=>arg 1;ext i;whnf)))
      refine Evx.int (n' := ((max best n : Nat) : Int)) (by simp only [extI]; split <;> simp_all <;> omega) ?_
      (conv=>arg 1;ext i;whnf)
      refine Evx.int (wrap_succ (n := k) (by omega)) ?_
      (conv=>arg 1;ext i;whnf)
      refine ih ⟨(k + 1, max best n), by omega, by omega, by rw [drop_len]; dsimp only; omega, ?_⟩ _ (by dsimp only; omega) (fun _ => by kernel_rfl) (fun _ => ?_)
      ·dsimp only
       rw [hinv]
       simp only [opGo, hl]
       rw [if_neg (by omega), Nat.add_sub_cancel]
      ·exact tabC
    ·have hl := stop (fun c w' l' q1 q2 => by
      rw [List.drop_eq_nil_of_le (by omega)] at q1; cases q1)
     (refine Evx.bool (fun h => ?_) (fun h => ?_) <;> (try simp only [bbs] at h) <;> (first | (exfalso; omega) | exact absurd trivial h | (conv=>arg 1;ext i;whnf)))
     (refine Evx.bool (fun h => ?_) (fun h => ?_) <;> (try simp only [bbs] at h) <;> (first | (exfalso; omega) | exact absurd trivial h | (conv=>arg 1;ext i;whnf)))
     ·have hf : opS (s.data.toList.drop a) = .ok (k : Int) n := by
       rw [hinv]
       simp only [opGo, hl]
       rw [if_pos (by omega)]
      refine Evx.int (n' := ((a + n : Nat) : Int)) (by (try dsimp only); rw [wrap_small] <;> omega) ?_
      (conv=>arg 1;ext i;whnf)
      exact Evx.fq ((hok _ n hf))
     ·refine Evx.int (n' := ((max best n : Nat) : Int)) (by simp only [extI]; split <;> simp_all <;> omega) ?_
      (conv=>arg 1;ext i;whnf)
      refine Evx.int (wrap_succ (n := k) (by omega)) ?_
      (conv=>arg 1;ext i;whnf)
      refine ih ⟨(k + 1, max best n), by omega, by omega, by rw [drop_len]; dsimp only; omega, ?_⟩ _ (by dsimp only; omega) (fun _ => by kernel_rfl) (fun _ => ?_)
      ·dsimp only
       rw [hinv]
       simp only [opGo, hl]
       rw [if_neg (by omega), Nat.add_sub_cancel]
      ·exact tabC
   ·exact tabC
  ·have hk : k = 13 := by omega
   subst hk
   have hf : opS (s.data.toList.drop a) = .no best := by rw [hinv]; rfl
   refine Evx.int (n' := ((a + best : Nat) : Int)) (by (try dsimp only); rw [wrap_small] <;> omega) ?_
   (conv=>arg 1;ext i;whnf)
   refine Evx.cq ([.ptr 2 9 0]) (pB s (a + best)) 2 ?_
   refine failE s (a + best) ?_
   (conv=>arg 1;ext i;whnf)
   exact Evx.fq ((hno best hf))
 ·exact tabC
end Go.Proofs.YtehkgiofchmpaaaDoor
namespace Go.Abs
open Go
set_option linter.unusedVariables false
set_option linter.unusedSimpArgs false
def txtR (r : Rf) : List UInt8 := if r.kind = 1 then 35 :: Lib.itoa r.idx else if r.kind = 3 then 64 :: Lib.itoa r.idx else if r.kind = 4 then Lib.itoa r.idx else r.nm.data.toList
def sepJ : List (List UInt8) → List UInt8
 | [] => []
 | x :: xs => x ++ (match xs with
  | [] => []
  | _ :: _ => 44 :: 32 :: sepJ xs)
def headT (t : Fm) : List UInt8 := if t.op = 3 then t.nm.data.toList else if t.op = 8 ∨ t.op = 9 then wordOf t.op ++ 32 :: t.nm.data.toList else if t.op = 10 then wordOf t.op ++ 32 :: (Lib.itoa t.fr ++ 32 :: Lib.itoa t.to) else wordOf t.op
def bodyT (t : Fm) (ks : List (List UInt8)) : List UInt8 := if t.op = 1 ∨ t.op = 2 then wordOf t.op else headT t ++ 40 :: (sepJ (t.as.map txtR) ++ (sepJ ks ++ [41]))
mutual
 def Fm.txt : Fm → List UInt8
  | .node o m a f t k => bodyT (.node o m a f t k) (ktxts k)
 def ktxts : List Fm → List (List UInt8)
  | [] => []
  | t :: ts => t.txt :: ktxts ts
end
theorem Fm.txt_eq (t : Fm) : t.txt = bodyT t (ktxts t.ks) := by cases t; simp only [Fm.txt, Fm.ks]
theorem lit_app : ∀ (w r : List UInt8), litS w (w ++ r) = .ok () w.length
 | [], r => rfl
 | c :: w, r => by simp only [List.cons_append, litS, if_true]; rw [lit_app w r]; simp only [Rd.up, List.length_cons]; rw [Nat.add_comm]
theorem tw_app (p : UInt8 → Bool) : ∀ (s r : List UInt8), (∀ c ∈ s, p c = true) → (∀ c, r[0]? = some c → p c = false) → (s ++ r).takeWhile p = s
 | [], [], _, _ => rfl
 | [], c :: r, _, h => by simp [h c rfl]
 | c :: s, r, h, h2 => by
  rw [List.cons_append, List.takeWhile_cons, if_pos (h c (by simp)), tw_app p s r (fun d hd => h d (by simp [hd])) h2]
theorem sym_app {s r : List UInt8} (h : symL s = true) (hr : ∀ c, r[0]? = some c → tailB c = false) : symS (s ++ r) = .ok s s.length := by
 cases s with
 | nil => cases h
 | cons c s =>
  simp only [symL, Bool.and_eq_true, List.all_eq_true] at h
  rw [List.cons_append, symS_cons, if_pos h.1, tw_app tailB s r h.2 hr, List.length_cons, Nat.add_comm]
theorem dig_val {k : Nat} (h : k < 10) : (UInt8.ofNat (48 + k)).toNat = 48 + k := by
 rw [UInt8.toNat_ofNat']; omega
theorem numGo_stop {most n : Int} {r : List UInt8} (hr : ∀ c, r[0]? = some c → digB c = false) : numGo most n r = .ok n 0 := by
 cases r with
 | nil => rfl
 | cons c r => simp only [numGo, hr c rfl]; rw [if_neg (by simp)]
theorem num_dec {most : Int} : ∀ (k : Nat) (r : List UInt8), 1 ≤ k → (k : Int) ≤ most → numS most (Lib.decDigits k ++ r) = (numGo most k r).up (Lib.decDigits k).length := by
 intro k
 induction k using Nat.strongRecOn with
 | _ k ih =>
  intro r h1 h2
  rw [Lib.decDigits]
  by_cases hk : k < 10
  ·rw [dif_pos hk]
   have hd := dig_val hk
   rw [List.singleton_append, numS_cons, if_pos (dig_hd.2 (by omega)), if_neg (fun e => by
    have := congrArg UInt8.toNat e
    rw [hd] at this
    have e48 : (48 : UInt8).toNat = 48 := rfl
    omega), hd]
   congr 2
   omega
  ·rw [dif_neg hk, List.append_assoc, List.singleton_append, ih (k / 10) (by omega) _ (by omega) (by omega)]
   have hd := dig_val (k := k % 10) (by omega)
   have e : ((k / 10 : Nat) : Int) * 10 + (((UInt8.ofNat (48 + k % 10)).toNat : Int) - 48) = k := by rw [hd]; omega
   simp only [numGo]
   rw [if_pos ⟨dig_hd.2 (by omega), by rw [e]; exact h2⟩, e, List.length_append]
   cases numGo most (↑k) r <;> simp [Rd.up] <;> omega
theorem num_app {most n : Int} {r : List UInt8} (h0 : 0 ≤ n) (h1 : n ≤ most) (hr : ∀ c, r[0]? = some c → digB c = false) : numS most (Lib.itoa n ++ r) = .ok n (Lib.itoa n).length := by
 rw [Lib.itoa, if_neg (by omega)]
 by_cases hn : n = 0
 ·subst hn
  rw [show Lib.decDigits (Int.toNat 0) = [48] by rw [Lib.decDigits, dif_pos (by decide)]; rfl]
  rfl
 ·have := num_dec (most := most) n.toNat r (by omega) (by omega)
  rw [this, Int.toNat_of_nonneg h0, numGo_stop hr]
  simp [Rd.up]
theorem dec_head : ∀ k : Nat, ∃ c l, Lib.decDigits k = c :: l ∧ digB c = true := by
 intro k
 induction k using Nat.strongRecOn with
 | _ k ih =>
  rw [Lib.decDigits]
  by_cases hk : k < 10
  ·rw [dif_pos hk]
   exact ⟨_, _, rfl, dig_hd.2 (by have := dig_val hk; omega)⟩
  ·rw [dif_neg hk]
   obtain ⟨c, l, e, hc⟩ := ih (k / 10) (by omega)
   exact ⟨c, l ++ [_], by rw [e]; rfl, hc⟩
theorem itoa_head {n : Int} (h : 0 ≤ n) : ∃ c l, Lib.itoa n = c :: l ∧ digB c = true := by
 rw [Lib.itoa, if_neg (by omega)]; exact dec_head _
theorem end_app {n : Int} {r : List UInt8} (h : momentB n = true) (hr : ∀ c, r[0]? = some c → digB c = false) : endS (Lib.itoa n ++ r) = .ok n (Lib.itoa n).length := by
 unfold momentB at h
 simp only [Bool.and_eq_true, decide_eq_true_eq] at h
 unfold endS
 by_cases hn : n < 0
 ·obtain rfl : n = -1 := by omega
  have e : Lib.itoa (-1) = [45, 49] := by
   rw [Lib.itoa, if_pos (by decide)]
   rw [show Lib.decDigits (Int.natAbs (-1)) = [49] by rw [Lib.decDigits, dif_pos (by decide)]; rfl]
  rw [e, if_pos (show hd ([45, 49] ++ r) = 45 from rfl), lit_app]
  rfl
 ·obtain ⟨c, l, e, hc⟩ := itoa_head (n := n) (by omega)
  have := dig_hd.1 hc
  rw [if_neg (by rw [e]; simp only [List.cons_append, hd]; omega), num_app (by omega) h.2 hr]
theorem bts_back (s : ByteArray) : bts s.data.toList = s := by cases s; simp [bts]
theorem emp_eq {s : ByteArray} (h : emp s = true) : s = ⟨#[]⟩ := by unfold emp at h; simpa using h
theorem sym_hd {s r : List UInt8} (h : symL s = true) : 97 ≤ hd (s ++ r) ∧ hd (s ++ r) ≤ 122 := by
 cases s with
 | nil => cases h
 | cons c s =>
  simp only [symL, Bool.and_eq_true] at h
  have := h.1
  unfold lowerB at this
  simp only [Bool.and_eq_true, decide_eq_true_eq] at this
  simp only [List.cons_append, hd]
  omega
theorem dig_tail {c : UInt8} (h : tailB c = false) : digB c = false := by
 unfold tailB at h
 simp only [Bool.or_eq_false_iff] at h
 exact h.1.2
theorem ref_app {q : Rf} {d : Int} {r : List UInt8} (h : refOk q (1099511627776 + d) = true) (hr : ∀ c, r[0]? = some c → tailB c = false) : refS d (txtR q ++ r) = .ok q (txtR q).length := by
 obtain ⟨k, i, nm⟩ := q
 have hr2 : ∀ c, r[0]? = some c → digB c = false := fun c hc => dig_tail (hr c hc)
 unfold refOk at h
 unfold txtR refS
 dsimp only at h ⊢
 by_cases h1 : k = 1
 ·subst h1
  simp only [if_true, Bool.and_eq_true, decide_eq_true_eq] at h
  rw [if_pos rfl, if_pos (by rfl), List.cons_append, List.drop_succ_cons, List.drop_zero, num_app h.1.2 (by omega) hr2, emp_eq h.1.1]
  simp [mapP, Rd.up, Nat.add_comm]
 ·rw [if_neg h1] at h ⊢
  by_cases h2 : k = 2
  ·subst h2
   simp only [if_true, Bool.and_eq_true, decide_eq_true_eq] at h
   have hs := sym_hd (r := r) (s := nm.data.toList) h.2
   simp only [show ¬ ((2 : Int) = 3) by decide, show ¬ ((2 : Int) = 4) by decide, if_false]
   rw [if_neg (by omega), if_neg (by omega), if_neg (by omega), sym_app h.2 hr]
   simp only [mapP, bts_back]
   rw [h.1]
  ·rw [if_neg h2] at h
   by_cases h3 : k = 3
   ·subst h3
    simp only [if_true, Bool.and_eq_true, decide_eq_true_eq] at h
    rw [if_pos rfl, if_neg (by simp [hd]), if_pos (by rfl), List.cons_append, List.drop_succ_cons, List.drop_zero, num_app h.1.2 h.2 hr2, emp_eq h.1.1]
    simp [mapP, Rd.up, Nat.add_comm]
   ·rw [if_neg h3] at h ⊢
    by_cases h4 : k = 4
    ·subst h4
     simp only [if_true, Bool.and_eq_true, decide_eq_true_eq] at h
     obtain ⟨c, l, e, hc⟩ := itoa_head (n := i) h.1.2
     have := dig_hd.1 hc
     have ehd : hd (Lib.itoa i ++ r) = c.toNat := by rw [e]; rfl
     rw [if_pos rfl, if_neg (by omega), if_neg (by omega), if_pos (by omega), num_app h.1.2 h.2 hr2, emp_eq h.1.1]
     rfl
    ·rw [if_neg h4] at h; cases h
theorem hd_not {c : UInt8} {w : List UInt8} (p : UInt8 → Bool) (h : p c = false) : ∀ e, (c :: w)[0]? = some e → p e = false := fun e he => by
 simp at he; subst he; exact h
theorem args_app {d : Int} : ∀ («as» : List Rf) (k : Nat) (r : List UInt8), (∀ q ∈ «as», refOk q (1099511627776 + d) = true) → 1 ≤ «as».length → «as».length ≤ k → argsS d k (sepJ («as».map txtR) ++ (41 :: r)) = .ok «as» ((sepJ («as».map txtR)).length + 1)
 | [], k, r, _, h, _ => absurd h (by simp)
 | [q], 0, r, _, _, h => absurd h (by simp)
 | [q], k + 1, r, hq, _, _ => by
  have hq := hq q (by simp)
  simp only [List.map_cons, List.map_nil, sepJ, List.append_nil]
  unfold argsS
  rw [thenOk (ref_app hq (hd_not tailB (c := 41) (by decide))), List.drop_left]
  rw [if_pos (.inl (by simp [hd]))]
  have := lit_app [41] r
  rw [List.singleton_append] at this
  rw [this]
  rfl
 | q :: q' :: «as», 0, r, _, _, h => absurd h (by simp)
 | q :: q' :: «as», k + 1, r, hq, _, h => by
  have h1 := hq q (by simp)
  have ih := args_app (d := d) (q' :: «as») k r (fun x hx => hq x (by simp [hx])) (by simp) (by simpa using h)
  have e : sepJ ((q :: q' :: «as»).map txtR) = txtR q ++ (44 :: 32 :: sepJ ((q' :: «as»).map txtR)) := by simp only [List.map_cons, sepJ]
  rw [e, List.append_assoc, List.cons_append, List.cons_append]
  unfold argsS
  rw [thenOk (ref_app h1 (hd_not tailB (c := 44) (by decide))), List.drop_left]
  rw [if_neg (by
   rintro (h | h)
   ·exact h rfl
   ·subst h; simp at *)]
  have hl := lit_app [44, 32] (sepJ ((q' :: «as»).map txtR) ++ (41 :: r))
  rw [show 44 :: 32 :: (sepJ ((q' :: «as»).map txtR) ++ (41 :: r)) = [44, 32] ++ (sepJ ((q' :: «as»).map txtR) ++ (41 :: r)) from rfl, thenOk hl, List.drop_left, ih]
  simp only [mapP, Rd.up, List.length_append, List.length_cons, List.length_nil, Rd.ok.injEq, true_and]
  omega
theorem word_in {op : Int} (h : op = 1 ∨ op = 2 ∨ op = 4 ∨ op = 5 ∨ op = 6 ∨ op = 7 ∨ op = 8 ∨ op = 9 ∨ op = 10 ∨ op = 11 ∨ op = 12) : (op, wordOf op) ∈ words ∧ ∃ c w, wordOf op = c :: w ∧ 65 ≤ c.toNat ∧ c.toNat ≤ 90 := by
 rcases h with rfl | rfl | rfl | rfl | rfl | rfl | rfl | rfl | rfl | rfl | rfl
 all_goals exact ⟨by decide, _, _, rfl, by decide, by decide⟩
theorem lcp_app : ∀ w r : List UInt8, lcp w (w ++ r) = w.length
 | [], r => by simp [lcp]
 | c :: w, r => by simp only [List.cons_append, lcp, if_true, List.length_cons]; rw [lcp_app w r]
theorem op_app {op : Int} {r : List UInt8} (h : op = 1 ∨ op = 2 ∨ op = 4 ∨ op = 5 ∨ op = 6 ∨ op = 7 ∨ op = 8 ∨ op = 9 ∨ op = 10 ∨ op = 11 ∨ op = 12) : opS (wordOf op ++ r) = .ok op (wordOf op).length := by
 obtain ⟨h1, c, w, h2, _⟩ := word_in h
 exact op_mk h1 ⟨lcp_app _ _, by rw [lcp_app, h2]; simp⟩
theorem word_hd {op : Int} {r : List UInt8} (h : op = 1 ∨ op = 2 ∨ op = 4 ∨ op = 5 ∨ op = 6 ∨ op = 7 ∨ op = 8 ∨ op = 9 ∨ op = 10 ∨ op = 11 ∨ op = 12) : 65 ≤ hd (wordOf op ++ r) ∧ hd (wordOf op ++ r) ≤ 90 := by
 obtain ⟨h1, c, w, h2, h3⟩ := word_in h
 rw [h2]; exact h3
theorem ops_of {t : Fm} {v : Int} (h : fieldsOk t v = true) : t.op = 3 ∨ (t.op = 1 ∨ t.op = 2 ∨ t.op = 4 ∨ t.op = 5 ∨ t.op = 6 ∨ t.op = 7 ∨ t.op = 8 ∨ t.op = 9 ∨ t.op = 10 ∨ t.op = 11 ∨ t.op = 12) := by
 unfold fieldsOk at h
 simp only [Bool.and_eq_true] at h
 have h2 := h.2
 by_cases h12 : t.op = 1 ∨ t.op = 2
 ·omega
 rw [if_neg h12] at h2
 by_cases h3 : t.op = 3
 ·omega
 rw [if_neg h3] at h2
 by_cases h4 : t.op = 4 ∨ t.op = 11 ∨ t.op = 12
 ·omega
 rw [if_neg h4] at h2
 by_cases h5 : t.op = 5 ∨ t.op = 6
 ·omega
 rw [if_neg h5] at h2
 by_cases h7 : t.op = 7
 ·omega
 rw [if_neg h7] at h2
 by_cases h8 : t.op = 8 ∨ t.op = 9
 ·omega
 rw [if_neg h8] at h2
 by_cases h10 : t.op = 10
 ·omega
 rw [if_neg h10] at h2
 cases h2
theorem txt_hd {t : Fm} {v : Int} (h : fieldsOk t v = true) (r : List UInt8) : (t.op = 3 ∧ 97 ≤ hd (t.txt ++ r) ∧ hd (t.txt ++ r) ≤ 122) ∨ (t.op ≠ 3 ∧ 65 ≤ hd (t.txt ++ r) ∧ hd (t.txt ++ r) ≤ 90) := by
 rw [t.txt_eq]
 rcases ops_of h with h3 | hop
 ·left
  refine ⟨h3, ?_⟩
  have hs : symL t.nm.data.toList = true := by
   unfold fieldsOk at h
   simp [h3] at h
   exact h.2.2
  unfold bodyT headT
  rw [if_neg (by omega), if_pos h3, List.append_assoc]
  exact sym_hd hs
 ·right
  refine ⟨by omega, ?_⟩
  unfold bodyT headT
  split
  ·exact word_hd hop
  ·rw [if_neg (by omega)]
   split
   ·rw [List.append_assoc, List.append_assoc]; exact word_hd hop
   ·split
    ·rw [List.append_assoc, List.append_assoc]; exact word_hd hop
    ·rw [List.append_assoc]; exact word_hd hop
theorem fields_parts {t : Fm} {v : Int} (h : fieldsOk t v = true) : (t.op ≠ 10 → t.fr = 0 ∧ t.to = 0) ∧ (t.op ≠ 3 → t.as = []) ∧ (t.op ≠ 3 → bindsB t.op = false → t.nm = ⟨#[]⟩) ∧ (t.op = 1 ∨ t.op = 2 → t.ks = []) ∧
  (t.op = 3 → (∀ q ∈ t.as, refOk q v = true) ∧ t.ks = [] ∧ 1 ≤ t.as.length ∧ t.as.length ≤ 3 ∧ symL t.nm.data.toList = true) ∧ (t.op = 4 ∨ t.op = 11 ∨ t.op = 12 → t.ks.length = 1) ∧ (t.op = 7 → t.ks.length = 2) ∧
  (t.op = 8 ∨ t.op = 9 → t.ks.length = 1 ∧ symL t.nm.data.toList = true) ∧ (t.op = 10 → t.ks.length = 1 ∧ momentB t.fr = true ∧ momentB t.to = true) := by
 unfold fieldsOk at h
 simp only [Bool.and_eq_true, Bool.not_eq_true', Bool.and_eq_false_iff, Bool.or_eq_false_iff, decide_eq_false_iff_not, Decidable.not_not, Bool.not_eq_false'] at h
 obtain ⟨⟨⟨h1, h2⟩, h3⟩, h4⟩ := h
 refine ⟨fun h => ?_, fun h => ?_, fun h hb => ?_, fun h => ?_, fun h => ?_, fun h => ?_, fun h => ?_, fun h => ?_, fun h => ?_⟩
 ·rcases h1 with h1 | h1
  ·exact absurd h1 h
  ·exact h1
 ·rcases h2 with h2 | h2
  ·exact absurd h2 h
  ·exact List.length_eq_zero_iff.1 (by omega)
 ·rcases h3 with (h3 | h3) | h3
  ·exact absurd h3 h
  ·rw [hb] at h3; cases h3
  ·exact emp_eq h3
 ·rw [if_pos h] at h4
  exact List.length_eq_zero_iff.1 (of_decide_eq_true h4)
 ·rw [if_neg (by omega), if_pos h] at h4
  simp only [Bool.and_eq_true, decide_eq_true_eq, List.all_eq_true] at h4
  exact ⟨h4.1.1.1.1, List.length_eq_zero_iff.1 h4.1.1.1.2, h4.1.1.2, h4.1.2, h4.2⟩
 ·rw [if_neg (by omega), if_neg (by omega), if_pos h] at h4
  exact of_decide_eq_true h4
 ·rw [if_neg (by omega), if_neg (by omega), if_neg (by omega), if_neg (by omega), if_pos h] at h4
  exact of_decide_eq_true h4
 ·rw [if_neg (by omega), if_neg (by omega), if_neg (by omega), if_neg (by omega), if_neg (by omega), if_pos h] at h4
  simp only [Bool.and_eq_true, decide_eq_true_eq] at h4
  exact h4
 ·rw [if_neg (by omega), if_neg (by omega), if_neg (by omega), if_neg (by omega), if_neg (by omega), if_neg (by omega), if_pos h] at h4
  simp only [Bool.and_eq_true, decide_eq_true_eq] at h4
  exact ⟨h4.1.1, h4.1.2, h4.2⟩
def Back (t : Fm) : Prop := ∀ (F : Nat) (d v : Int) (r : List UInt8), t.formed v = true → v = 1099511627776 + d → 4 * (t.txt ++ r).length < F → fmS F d (t.txt ++ r) = .ok t t.txt.length
theorem items_app {v d : Int} (hv : v = 1099511627776 + d) : ∀ (ks : List Fm), (∀ k ∈ ks, Back k ∧ k.formed v = true) → 1 ≤ ks.length → ∀ (F : Nat) (r : List UInt8), 4 * (sepJ (ktxts ks) ++ 41 :: r).length + 1 < F → itemsS F d (sepJ (ktxts ks) ++ 41 :: r) = .ok ks ((sepJ (ktxts ks)).length + 1)
 | [], _, h, _, _, _ => absurd h (by simp)
 | [k], hk, _, 0, r, hF => absurd hF (Nat.not_lt_zero _)
 | [k], hk, _, F + 1, r, hF => by
  obtain ⟨hb, hf⟩ := hk k (by simp)
  simp only [ktxts, sepJ, List.append_nil] at hF ⊢
  unfold itemsS
  rw [thenOk (hb F d v _ hf hv (by omega)), List.drop_left, if_pos (by simp [hd])]
  have := lit_app [41] r
  rw [List.singleton_append] at this
  rw [this]
  rfl
 | k :: k' :: ks, hk, _, 0, r, hF => absurd hF (Nat.not_lt_zero _)
 | k :: k' :: ks, hk, _, F + 1, r, hF => by
  obtain ⟨hb, hf⟩ := hk k (by simp)
  have e : sepJ (ktxts (k :: k' :: ks)) = k.txt ++ (44 :: 32 :: sepJ (ktxts (k' :: ks))) := by simp only [ktxts, sepJ]
  rw [e, List.append_assoc, List.cons_append, List.cons_append] at hF ⊢
  have ih := items_app hv (k' :: ks) (fun x hx => hk x (by simp [hx])) (by simp) F r (by simp only [List.length_append, List.length_cons] at hF ⊢; omega)
  unfold itemsS
  rw [thenOk (hb F d v _ hf hv (by omega)), List.drop_left, if_neg (by simp [hd])]
  have hl := lit_app [44, 32] (sepJ (ktxts (k' :: ks)) ++ (41 :: r))
  rw [show 44 :: 32 :: (sepJ (ktxts (k' :: ks)) ++ (41 :: r)) = [44, 32] ++ (sepJ (ktxts (k' :: ks)) ++ (41 :: r)) from rfl, thenOk hl, List.drop_left, ih]
  simp only [mapP, Rd.up, List.length_append, List.length_cons, List.length_nil, Rd.ok.injEq, true_and]
  omega
theorem body_app {t : Fm} {v d : Int} {nm : ByteArray} {a b : Int} {op : Int} (k : Nat) (hv : v = 1099511627776 + d) (hk : ∀ x ∈ t.ks, Back x ∧ x.formed v = true) (hlen : k ≠ 0 → t.ks.length = k) (hk2 : k ≤ 2) (F : Nat) (r : List UInt8)
  (hF : 4 * (40 :: (sepJ (ktxts t.ks) ++ 41 :: r)).length < F) : bodyS F d op nm a b k (40 :: (sepJ (ktxts t.ks) ++ 41 :: r)) = .ok (.node op nm [] a b t.ks) ((sepJ (ktxts t.ks)).length + 2) := by
 obtain ⟨F, rfl⟩ : ∃ G, F = G + 1 := ⟨F - 1, by omega⟩
 unfold bodyS
 have hl := lit_app [40] (sepJ (ktxts t.ks) ++ 41 :: r)
 rw [List.singleton_append] at hl
 rw [thenOk hl]
 simp only [List.length_cons, List.length_nil, List.drop_succ_cons, List.drop_zero]
 simp only [List.length_cons] at hF
 have l41 := lit_app [41] r
 rw [List.singleton_append] at l41
 obtain ⟨ks, hks⟩ : ∃ ks, ks = t.ks := ⟨_, rfl⟩
 rw [← hks] at hk hlen hF ⊢
 match k, hlen, hk2 with
 | 0, _, _ =>
  show (mapP _ (if hd (sepJ (ktxts ks) ++ 41 :: r) = 41 then (Rd.ok [] 1 : Rd (List Fm)) else itemsS F d (sepJ (ktxts ks) ++ 41 :: r))).up 1 = _
  cases ks with
  | nil =>
   rw [if_pos (by simp [ktxts, sepJ, hd])]
   rfl
  | cons x xs =>
   obtain ⟨hb, hf⟩ := hk x (by simp)
   have hff := hf
   rw [Fm.formed_eq, Bool.and_eq_true] at hff
   have hne : hd (sepJ (ktxts (x :: xs)) ++ 41 :: r) ≠ 41 := by
    simp only [ktxts, sepJ, List.append_assoc]
    have := txt_hd hff.1 ((match ktxts xs with
     | [] => []
     | _ :: _ => 44 :: 32 :: sepJ (ktxts xs)) ++ 41 :: r)
    omega
   rw [if_neg hne, items_app hv (x :: xs) hk (by simp) F r (by omega)]
   simp only [mapP, Rd.up, Rd.ok.injEq, true_and]
   omega
 | 1, hlen, _ =>
  have hl1 := hlen (by decide)
  obtain ⟨x, rfl⟩ : ∃ x, ks = [x] := by
   match ks, hl1 with
   | [x], _ => exact ⟨x, rfl⟩
  obtain ⟨hb, hf⟩ := hk x (by simp)
  simp only [ktxts, sepJ, List.append_nil] at hF ⊢
  rw [thenOk (hb F d v _ hf hv (by omega)), List.drop_left, l41]
  simp only [mapP, Rd.up, Rd.ok.injEq, true_and, List.length_cons, List.length_nil]
  omega
 | 2, hlen, _ =>
  have hl1 := hlen (by decide)
  obtain ⟨x, y, rfl⟩ : ∃ x y, ks = [x, y] := by
   match ks, hl1 with
   | [x, y], _ => exact ⟨x, y, rfl⟩
  obtain ⟨hb, hf⟩ := hk x (by simp)
  obtain ⟨hb', hf'⟩ := hk y (by simp)
  have e : sepJ (ktxts [x, y]) ++ 41 :: r = x.txt ++ ([44, 32] ++ (y.txt ++ 41 :: r)) := by simp [ktxts, sepJ]
  have e2 : (sepJ (ktxts [x, y])).length = x.txt.length + 2 + y.txt.length := by simp [ktxts, sepJ]; omega
  rw [e] at hF ⊢
  show (mapP _ (thenP (fmS F d (x.txt ++ ([44, 32] ++ (y.txt ++ 41 :: r)))) (fun f l => thenP (litS [44, 32] l) (fun _ l => thenP (fmS F d l) (fun g l => mapP (fun _ => [f, g]) (litS [41] l)) l) l) (x.txt ++ ([44, 32] ++ (y.txt ++ 41 :: r))))).up 1 = _
  rw [thenOk (hb F d v _ hf hv (by omega)), List.drop_left, thenOk (lit_app [44, 32] _), List.drop_left, thenOk (hb' F d v _ hf' hv (by simp only [List.length_append, List.length_cons] at hF ⊢; omega)), List.drop_left, l41, e2]
  simp only [mapP, Rd.up, Rd.ok.injEq, true_and, List.length_cons, List.length_nil]
  omega
 | k + 3, _, h => exact absurd h (by omega)
theorem back : ∀ t : Fm, Back t := by
 intro t
 induction t using Fm.rec' with
 | _ t ih =>
  intro F d v r hf hv hF
  have hf0 := hf
  rw [Fm.formed_eq, Bool.and_eq_true] at hf
  obtain ⟨hfo, hkf⟩ := hf
  obtain ⟨p10, pas, pnm, p12, p3, p4, p7, p8, p10'⟩ := fields_parts hfo
  have hhd := txt_hd hfo r
  have kids : ∀ (n : Int), under t v = n → ∀ x ∈ t.ks, Back x ∧ x.formed n = true := by
   rintro n rfl x hx
   obtain ⟨i, hi⟩ := List.getElem?_of_mem hx
   exact ⟨ih i x hi, formeds_get hkf hi⟩
  obtain ⟨F, rfl⟩ : ∃ G, F = G + 1 := ⟨F - 1, by omega⟩
  unfold fmS
  rcases ops_of hfo with h3 | hop
  ·
   obtain ⟨q1, q2, q3, q4, q5⟩ := p3 h3
   rw [if_pos (by omega)]
   have e : t.txt = t.nm.data.toList ++ (40 :: (sepJ (t.as.map txtR) ++ [41])) := by
    rw [t.txt_eq, q2]
    unfold bodyT headT
    rw [if_neg (by omega), if_pos h3]
    simp [ktxts, sepJ]
   have hfr := p10 (by omega)
   rw [e, List.append_assoc, List.cons_append, List.append_assoc, List.singleton_append]
   unfold atomS
   rw [thenOk (sym_app q5 (hd_not tailB (by decide))), List.drop_left]
   have hl := lit_app [40] (sepJ (t.as.map txtR) ++ 41 :: r)
   rw [List.singleton_append] at hl
   rw [thenOk hl]
   simp only [List.length_cons, List.length_nil, List.drop_succ_cons, List.drop_zero]
   rw [args_app t.as 3 r (fun q hq => by rw [← hv]; exact q1 q hq) q3 q4]
   have et : Fm.node 3 t.nm t.as 0 0 [] = t := by conv => rhs; rw [t.eta, h3, hfr.1, hfr.2, q2]
   simp only [mapP, Rd.up, bts_back, et, List.length_append, List.length_cons, List.length_nil, Rd.ok.injEq, true_and]
   omega
  ·rw [if_neg (by omega)]
   have has := pas (by omega)
   have e : t.op ≠ 1 → t.op ≠ 2 → t.txt = headT t ++ (40 :: (sepJ (ktxts t.ks) ++ [41])) := fun h1 h2 => by
    rw [t.txt_eq, bodyT, if_neg (by omega), has]
    simp [sepJ]
   by_cases h12 : t.op = 1 ∨ t.op = 2
   ·have e1 : t.txt = wordOf t.op := by rw [t.txt_eq, bodyT, if_pos h12]
    have hfr := p10 (by omega)
    have hnm := pnm (by omega) (by unfold bindsB; simp; omega)
    rw [e1, thenOk (op_app hop), if_pos h12]
    have et : Fm.node t.op ⟨#[]⟩ [] 0 0 [] = t := by conv => rhs; rw [t.eta, has, hfr.1, hfr.2, hnm, p12 h12]
    simp [Rd.up, et]
   ·have e := e (by omega) (by omega)
    have eall : ∀ (w : List UInt8), headT t = wordOf t.op ++ w → t.txt ++ r = wordOf t.op ++ (w ++ 40 :: (sepJ (ktxts t.ks) ++ 41 :: r)) := fun w hw => by rw [e, hw]; simp
    have elen : ∀ (w : List UInt8), headT t = wordOf t.op ++ w → t.txt.length = (wordOf t.op).length + w.length + (sepJ (ktxts t.ks)).length + 2 := fun w hw => by rw [e, hw]; simp; omega
    have wl : 1 ≤ (wordOf t.op).length := by
     obtain ⟨_, c, w, hw, _⟩ := word_in hop
     rw [hw]; simp
    by_cases h8 : t.op = 8 ∨ t.op = 9
    ·obtain ⟨k1, k2⟩ := p8 h8
     have hfr := p10 (by omega)
     have hu : under t v = v + 1 := by unfold under bindsB; rcases h8 with h | h <;> simp [h]
     have hw : headT t = wordOf t.op ++ (32 :: t.nm.data.toList) := by unfold headT; rw [if_neg (by omega), if_pos h8]
     have el := elen _ hw
     rw [eall _ hw] at hF ⊢
     rw [thenOk (op_app hop), List.drop_left, if_neg h12, if_pos h8, List.cons_append]
     have hl := lit_app [32] (t.nm.data.toList ++ 40 :: (sepJ (ktxts t.ks) ++ 41 :: r))
     rw [List.singleton_append] at hl
     rw [thenOk hl]
     simp only [List.length_cons, List.length_nil, List.drop_succ_cons, List.drop_zero]
     rw [thenOk (sym_app k2 (hd_not tailB (by decide))), List.drop_left, body_app (t := t) (v := v + 1) 1 (by omega) (kids _ hu) (fun _ => k1) (by omega) F r (by simp only [List.length_append, List.length_cons] at hF ⊢; omega), el]
     have et : Fm.node t.op t.nm [] 0 0 t.ks = t := by conv => rhs; rw [t.eta, has, hfr.1, hfr.2]
     simp only [Rd.up, bts_back, et, Rd.ok.injEq, true_and, List.length_cons]
     omega
    ·have hu : under t v = v := by unfold under bindsB; simp; omega
     have hnm := pnm (by omega) (by unfold bindsB; simp; omega)
     by_cases h10 : t.op = 10
     ·obtain ⟨k1, k2, k3⟩ := p10' h10
      have hw : headT t = wordOf t.op ++ (32 :: (Lib.itoa t.fr ++ 32 :: Lib.itoa t.to)) := by unfold headT; rw [if_neg (by omega), if_neg h8, if_pos h10]
      have el := elen _ hw
      have eb := eall _ hw
      rw [show (32 :: (Lib.itoa t.fr ++ 32 :: Lib.itoa t.to)) ++ 40 :: (sepJ (ktxts t.ks) ++ 41 :: r) = 32 :: (Lib.itoa t.fr ++ (32 :: (Lib.itoa t.to ++ 40 :: (sepJ (ktxts t.ks) ++ 41 :: r)))) by simp] at eb
      rw [eb] at hF ⊢
      rw [thenOk (op_app hop), List.drop_left, if_neg h12, if_neg h8, if_pos h10]
      have hl := lit_app [32] (Lib.itoa t.fr ++ (32 :: (Lib.itoa t.to ++ 40 :: (sepJ (ktxts t.ks) ++ 41 :: r))))
      rw [List.singleton_append] at hl
      rw [thenOk hl]
      simp only [List.length_cons, List.length_nil, List.drop_succ_cons, List.drop_zero]
      rw [thenOk (end_app k2 (hd_not digB (by decide))), List.drop_left]
      have hl := lit_app [32] (Lib.itoa t.to ++ 40 :: (sepJ (ktxts t.ks) ++ 41 :: r))
      rw [List.singleton_append] at hl
      rw [thenOk hl]
      simp only [List.length_cons, List.length_nil, List.drop_succ_cons, List.drop_zero]
      rw [thenOk (end_app k3 (hd_not digB (by decide))), List.drop_left, body_app (t := t) (v := v) 1 hv (kids _ hu) (fun _ => k1) (by omega) F r (by simp only [List.length_append, List.length_cons] at hF ⊢; omega), el]
      have et : Fm.node t.op ⟨#[]⟩ [] t.fr t.to t.ks = t := by conv => rhs; rw [t.eta, has, hnm]
      simp only [Rd.up, et, Rd.ok.injEq, true_and, List.length_cons, List.length_append]
      omega
     ·have hfr := p10 h10
      have hw : headT t = wordOf t.op ++ [] := by unfold headT; rw [if_neg (by omega), if_neg h8, if_neg h10, List.append_nil]
      have el := elen _ hw
      have fin : ∀ (k : Nat), (k ≠ 0 → t.ks.length = k) → k ≤ 2 → (Rd.up (wordOf t.op).length (bodyS F d t.op ⟨#[]⟩ 0 0 k (40 :: (sepJ (ktxts t.ks) ++ 41 :: r)))) = .ok t t.txt.length := by
       intro k hk hk2
       rw [body_app (t := t) (v := v) k hv (kids _ hu) hk hk2 F r (by rw [eall _ hw] at hF; simp only [List.length_append, List.length_cons, List.length_nil] at hF ⊢; omega), el]
       have et : Fm.node t.op ⟨#[]⟩ [] 0 0 t.ks = t := by conv => rhs; rw [t.eta, has, hnm, hfr.1, hfr.2]
       simp only [Rd.up, et, Rd.ok.injEq, true_and, List.length_nil]
       omega
      rw [eall _ hw, List.nil_append, thenOk (op_app hop), List.drop_left, if_neg h12, if_neg h8, if_neg h10]
      by_cases h7 : t.op = 7
      ·rw [if_pos h7]
       exact fin 2 (fun _ => p7 h7) (by omega)
      ·rw [if_neg h7]
       by_cases h56 : t.op = 5 ∨ t.op = 6
       ·rw [if_pos h56]
        exact fin 0 (fun h => absurd rfl h) (by omega)
       ·rw [if_neg h56]
        exact fin 1 (fun _ => p4 (by omega)) (by omega)
end Go.Abs
namespace Go.Abs
open Go
set_option linter.unusedVariables false
set_option linter.unusedSimpArgs false
end Go.Abs
namespace Go.Proofs.YtehkgiofchmpaaaDoor
open Go Go.Abs Go.Abs.Asks
set_option linter.unusedVariables false
set_option linter.unusedSimpArgs false
set_option linter.unusedSectionVars false
variable [Asks]
theorem rkeyword_ev (k : Nat) (h1 : 1 ≤ k) (h2 : k ≤ 12) : Ev pr 83 [.int .i64 (k : Int)] (.ret [.d (.str (bts (wordOf k)))]) := by
 have : k = 1 ∨ k = 2 ∨ k = 3 ∨ k = 4 ∨ k = 5 ∨ k = 6 ∨ k = 7 ∨ k = 8 ∨ k = 9 ∨ k = 10 ∨ k = 11 ∨ k = 12 := by omega
 rcases this with rfl | rfl | rfl | rfl | rfl | rfl | rfl | rfl | rfl | rfl | rfl | rfl
 all_goals exact Ev.of_run 3 fun n k => by kernel_rfl
end Go.Proofs.YtehkgiofchmpaaaDoor
namespace Go.Proofs.YtehkgiofchmpaaaDoor
open Go Go.Abs Go.Abs.Asks
set_option linter.unusedVariables false
set_option linter.unusedSimpArgs false
set_option linter.unusedSectionVars false
def qB (s : ByteArray) (a : Nat) (b : Int) (x : Bool) : List ((Nat × Nat) × Box) := [((1, 2), zeroBox), ((1, 9), ⟨[.d (.str s), .d (.int .i64 a), .d (.int .i64 b), .d (.bool x)], false, (0, 0)⟩)]
variable [Asks]
theorem hd_byte {s : ByteArray} {a : Nat} {e : UInt8} {r : List UInt8} (h : s.data.toList.drop a = e :: r) : hd (s.data.toList.drop a) = e.toNat := by rw [h]; rfl
theorem rnextE (s : ByteArray) (a : Nat) (ha : a ≤ s.size) (b : Int) (x : Bool) (k : Nat) (hk : 0 < k) {c : Nat} {K : Nat → Out → G → Option Out} {r : Out}
  (hK : Evx (fun i => K i (.ret [.d (.bool (decide (hd (s.data.toList.drop a) = k)))]) ⟨tabB (qB s a b x), 1, []⟩) r) :
  Evx (fun i => runQ (pr i) (i - c) Out (.fn (.func 104)) [.ptr 1 9 0, .d (.int .u8 (k : Int))] ⟨tabB (qB s a b x), 1, []⟩ (K i)) r := by
 apply Evx.enter; (conv=>arg 1;ext i;whnf)
 (refine Evx.bool (fun h => ?_) (fun h => ?_) <;> (try simp only [bbs] at h) <;> (first | (exfalso; omega) | exact absurd trivial h | (conv=>arg 1;ext i;whnf)))
 ·obtain ⟨e, he, hd⟩ := byte_at (s := s) (a := a) (by omega)
  refine Evx.chr rfl he ?_
  (conv=>arg 1;ext i;whnf)
  rw [hd_byte hd] at hK
  have e1 : hold ((e.toNat : Int) == (k : Int)) = decide (e.toNat = k) := by
   rw [hold_eq, Bool.eq_iff_iff, beq_iff_eq, decide_eq_true_eq]; omega
  rw [← e1] at hK
  exact Evx.fq (hK)
 ·rw [hd_end (by omega), decide_eq_false (by omega)] at hK
  exact Evx.fq (hK)
def digV (l : List UInt8) : Int := if digH l then (hd l : Int) - 48 else -1
theorem rdigitE (s : ByteArray) (a : Nat) (ha : a ≤ s.size) (b : Int) (x : Bool) {c : Nat} {K : Nat → Out → G → Option Out} {r : Out}
  (hK : Evx (fun i => K i (.ret [.d (.int .i64 (digV (s.data.toList.drop a)))]) ⟨tabB (qB s a b x), 1, []⟩) r) :
  Evx (fun i => runQ (pr i) (i - c) Out (.fn (.func 109)) [.ptr 1 9 0] ⟨tabB (qB s a b x), 1, []⟩ (K i)) r := by
 unfold digV at hK
 rw [digH_hd] at hK
 apply Evx.enter; (conv=>arg 1;ext i;whnf)
 (refine Evx.bool (fun h => ?_) (fun h => ?_) <;> (try simp only [bbs] at h) <;> (first | (exfalso; omega) | exact absurd trivial h | (conv=>arg 1;ext i;whnf)))
 ·obtain ⟨e, he, hd⟩ := byte_at (s := s) (a := a) (by omega)
  rw [hd_byte hd] at hK
  refine Evx.chr rfl he ?_
  (conv=>arg 1;ext i;whnf)
  (refine Evx.bool (fun h => ?_) (fun h => ?_) <;> (try simp only [bbs] at h) <;> (first | (exfalso; omega) | exact absurd trivial h | (conv=>arg 1;ext i;whnf)))
  ·refine Evx.chr rfl he ?_
   (conv=>arg 1;ext i;whnf)
   (refine Evx.bool (fun h => ?_) (fun h => ?_) <;> (try simp only [bbs] at h) <;> (first | (exfalso; omega) | exact absurd trivial h | (conv=>arg 1;ext i;whnf)))
   ·refine Evx.chr rfl he ?_
    (conv=>arg 1;ext i;whnf)
    rw [if_pos (by simp only [Bool.and_eq_true, decide_eq_true_eq]; omega)] at hK
    refine Evx.int (n' := (e.toNat : Int) - 48) (wrap_u8 (by omega) (by have := e.toNat_lt; omega)) ?_
    (conv=>arg 1;ext i;whnf)
    refine Evx.int (n' := (e.toNat : Int) - 48) (by rw [wrap_small] <;> omega) ?_
    (conv=>arg 1;ext i;whnf)
    exact Evx.fq (hK)
   ·rw [if_neg (by simp only [Bool.and_eq_true, decide_eq_true_eq]; omega)] at hK
    exact Evx.fq (hK)
  ·rw [if_neg (by simp only [Bool.and_eq_true, decide_eq_true_eq]; omega)] at hK
   exact Evx.fq (hK)
 ·rw [hd_end (by omega), if_neg (by simp)] at hK
  exact Evx.fq (hK)
theorem rlitE (s : ByteArray) (hs : s.size < 2 ^ 30) (w : List UInt8) (hw : w.length < 2 ^ 20) (hw0 : ∀ e ∈ w, 0 < e.toNat) (a : Nat) (ha : a ≤ s.size) (b : Int) {c : Nat} {K : Nat → Out → G → Option Out} {r : Out}
  (hok : ∀ n, litS w (s.data.toList.drop a) = .ok () n → Evx (fun i => K i (.ret []) ⟨tabB (qB s (a + n) b false), 1, []⟩) r)
  (hno : ∀ n, litS w (s.data.toList.drop a) = .no n → Evx (fun i => K i (.ret []) ⟨tabB (qB s (a + n) b true), 1, []⟩) r) :
  Evx (fun i => runQ (pr i) (i - c) Out (.fn (.func 87)) [.ptr 1 9 0, .d (.str (bts w))] ⟨tabB (qB s a b false), 1, []⟩ (K i)) r := by
 apply Evx.enter; (conv=>arg 1;ext i;whnf)
 refine Evx.loopB hint87 1 (α := { i : Nat // i ≤ w.length ∧ a + i ≤ s.size ∧ litS w (s.data.toList.drop a) = (litS (w.drop i) (s.data.toList.drop (a + i))).up i }) (fun i => [some (.ptr 1 9 0), some (.d (.str (bts w))), some (.d (.int .i64 (i.1 : Nat)))]) (fun _ => []) (fun i => qB s (a + i.1) b false) 2 [] (fun i => w.length - i.1) (fun _ => r) ?_ ⟨0, Nat.zero_le _, ha, by simp [up_zero]⟩ (fun _ => rfl) (fun _ => rfl) (fun _ => rfl) (fun _ => by kernel_rfl) (fun _ => ?_)
 ·rintro ⟨i, hi, hai, hlit⟩ L ih; (conv=>arg 1;ext i;whnf)
  rw [bts_size] at *
  (refine Evx.bool (fun h => ?_) (fun h => ?_) <;> (try simp only [bbs] at h) <;> (first | (exfalso; omega) | exact absurd trivial h | (conv=>arg 1;ext i;whnf)))
  ·obtain ⟨e, he⟩ := get_some (l := w) (i := i) (by omega)
   have hwe := bts_get he
   have he0 := hw0 e (List.mem_of_getElem? he)
   rw [drop_cons he] at hlit
   refine Evx.chr rfl hwe ?_
   (conv=>arg 1;ext i;whnf)
   refine Evx.cq ([.ptr 1 9 0, .d (.int .u8 (e.toNat : Int))]) (qB s (a + i) b false) 1 ?_
   refine rnextE s (a + i) hai b false e.toNat he0 ?_
   (conv=>arg 1;ext i;whnf)
   (refine Evx.bool (fun h => ?_) (fun h => ?_) <;> (try simp only [bbs] at h) <;> (first | (exfalso; omega) | exact absurd trivial h | (conv=>arg 1;ext i;whnf)))
   ·have hl : litS w (s.data.toList.drop a) = .no i := by
     rw [hlit]
     rcases Nat.lt_or_ge (a + i) s.size with hlt | hge
     ·obtain ⟨bb, hb, hd⟩ := byte_at (s := s) (a := a + i) hlt
      rw [hd_byte hd] at h
      rw [hd]
      simp only [litS]
      rw [if_neg (fun hbe => h (by rw [hbe]))]
      rfl
     ·rw [drop_end hge]; rfl
    exact Evx.fq ((hno i hl))
   ·have hlt : a + i < s.size := by
     rcases Nat.lt_or_ge (a + i) s.size with hlt | hge
     ·exact hlt
     ·rw [hd_end hge] at h; omega
    obtain ⟨bb, hb, hd⟩ := byte_at (s := s) (a := a + i) hlt
    rw [hd_byte hd] at h
    have hl : litS w (s.data.toList.drop a) = (litS (w.drop (i + 1)) (s.data.toList.drop (a + (i + 1)))).up (i + 1) := by
     have hbe : bb = e := UInt8.toNat_inj.1 (by omega)
     rw [hlit, hd]
     simp only [litS]
     rw [if_pos hbe, up_up, Nat.add_assoc]
    refine Evx.int (n' := ((a + (i + 1) : Nat) : Int)) (by (try dsimp only); rw [wrap_small] <;> omega) ?_
    (conv=>arg 1;ext i;whnf)
    refine Evx.int (wrap_succ (n := i) (by omega)) ?_
    (conv=>arg 1;ext i;whnf)
    refine ih ⟨i + 1, by omega, by omega, hl⟩ _ (by dsimp only; omega) (fun _ => by kernel_rfl) (fun _ => ?_)
    exact tabC
  ·obtain rfl : i = w.length := by omega
   have hl : litS w (s.data.toList.drop a) = .ok () w.length := by
    rw [hlit, List.drop_length]; rfl
   exact Evx.fq ((hok _ hl))
 ·exact tabC
theorem rlitB (s : ByteArray) (w : ByteArray) (a : Nat) (b : Int) {c : Nat} {K : Nat → Out → G → Option Out} {r : Out}
  (hK : Evx (fun i => K i (.ret []) ⟨tabB (qB s a b true), 1, []⟩) r) :
  Evx (fun i => runQ (pr i) (i - c) Out (.fn (.func 87)) [.ptr 1 9 0, .d (.str w)] ⟨tabB (qB s a b true), 1, []⟩ (K i)) r := by
 apply Evx.enter; (conv=>arg 1;ext i;whnf)
 refine Evx.loopB hint87 1 (α := Unit) (fun _ => [some (.ptr 1 9 0), some (.d (.str w)), some (.d (.int .i64 0))]) (fun _ => []) (fun _ => qB s a b true) 2 [] (fun _ => 0) (fun _ => r) ?_ () (fun _ => rfl) (fun _ => rfl) (fun _ => rfl) (fun _ => by kernel_rfl) (fun _ => ?_)
 ·intro _ L ih; (conv=>arg 1;ext i;whnf)
  (refine Evx.bool (fun h => ?_) (fun h => ?_) <;> (try simp only [bbs] at h) <;> (first | (exfalso; omega) | exact absurd trivial h | (conv=>arg 1;ext i;whnf)))
  ·exact Evx.fq (hK)
  ·exact Evx.fq (hK)
 ·exact tabC
theorem rsymE (s : ByteArray) (hs : s.size < 2 ^ 30) (a : Nat) (ha : a ≤ s.size) (b : Int) {c : Nat} {K : Nat → Out → G → Option Out} {r : Out}
  (hok : ∀ v n, symS (s.data.toList.drop a) = .ok v n → Evx (fun i => K i (.ret [.d (.str (bts v))]) ⟨tabB (qB s (a + n) b false), 1, []⟩) r)
  (hno : symS (s.data.toList.drop a) = .no 0 → Evx (fun i => K i (.ret [.d (.str ⟨#[]⟩)]) ⟨tabB (qB s a b true), 1, []⟩) r) :
  Evx (fun i => runQ (pr i) (i - c) Out (.fn (.func 88)) [.ptr 1 9 0] ⟨tabB (qB s a b false), 1, []⟩ (K i)) r := by
 apply Evx.enter; (conv=>arg 1;ext i;whnf)
 (refine Evx.bool (fun h => ?_) (fun h => ?_) <;> (try simp only [bbs] at h) <;> (first | (exfalso; omega) | exact absurd trivial h | (conv=>arg 1;ext i;whnf)))
 ·exact Evx.fq ((hno (sym_none (by rw [drop_end (by omega)]; rfl))))
 ·obtain ⟨e, he, hd⟩ := byte_at (s := s) (a := a) (by omega)
  refine Evx.chr rfl he ?_
  (conv=>arg 1;ext i;whnf)
  refine Evx.call (lower_ev e) ?_
  (conv=>arg 1;ext i;whnf)
  (refine Evx.bool (fun h => ?_) (fun h => ?_) <;> (try simp only [bbs] at h) <;> (first | (exfalso; omega) | exact absurd trivial h | (conv=>arg 1;ext i;whnf)))
  ·exact Evx.fq ((hno (sym_none (by rw [hd]; exact h))))
  ·have hh : headB (s.data.toList.drop a) = true := by rw [hd]; exact h
   have hm : (symS (s.data.toList.drop a)) = .ok ((s.data.toList.drop a).takeWhile tailB) ((s.data.toList.drop a).takeWhile tailB).length := sym_tw hh
   obtain ⟨m, hmd⟩ : ∃ m, m = ((s.data.toList.drop a).takeWhile tailB).length := ⟨_, rfl⟩
   have hml := tw_len tailB (s.data.toList.drop a)
   rw [drop_len, ← hmd] at hml
   rw [← hmd] at hm
   refine Evx.loopB hint88 5 (α := { i : Nat // i ≤ m }) (fun i => [some (.ptr 1 9 0), some (.d (.int .i64 a))]) (fun _ => []) (fun i => qB s (a + i.1) b false) 2 [] (fun i => m - i.1) (fun _ => r) ?_ ⟨0, Nat.zero_le _⟩ (fun _ => rfl) (fun _ => rfl) (fun _ => rfl) (fun _ => by kernel_rfl) (fun _ => ?_)
   ·rintro ⟨i, hi⟩ L ih; (conv=>arg 1;ext i;whnf)
    have key : i = m → Evx (fun j => K j (.ret [.d (.str (s.extract a (a + i)))]) ⟨tabB (qB s (a + i) b false), 1, []⟩) r := fun e => by
     subst e
     have key : s.extract a (a + i) = bts ((s.data.toList.drop a).takeWhile tailB) := by
      rw [ext_eq, tw_take tailB (s.data.toList.drop a), ← hmd, List.drop_take, Nat.add_sub_cancel_left]
     have hK := hok _ _ hm
     rw [← key] at hK
     exact hK
    (refine Evx.bool (fun h => ?_) (fun h => ?_) <;> (try simp only [bbs] at h) <;> (first | (exfalso; omega) | exact absurd trivial h | (conv=>arg 1;ext i;whnf)))
    ·obtain ⟨e2, he2, hd2⟩ := byte_at (s := s) (a := a + i) (by omega)
     refine Evx.chr rfl he2 ?_
     (conv=>arg 1;ext i;whnf)
     refine Evx.call (tail_ev e2) ?_
     (conv=>arg 1;ext i;whnf)
     (refine Evx.bool (fun h => ?_) (fun h => ?_) <;> (try simp only [bbs] at h) <;> (first | (exfalso; omega) | exact absurd trivial h | (conv=>arg 1;ext i;whnf)))
     ·have hlt : i < m := by
       by_cases hc : i < m
       ·exact hc
       ·exfalso
        obtain rfl : i = m := by omega
        have := tw_stop tailB (s.data.toList.drop a) e2 (by rw [← hmd, List.drop_drop, hd2]; rfl)
        rw [this] at h
        cases h
      refine Evx.int (n' := ((a + (i + 1) : Nat) : Int)) (by dsimp only; rw [wrap_small] <;> omega) ?_
      (conv=>arg 1;ext i;whnf)
      refine ih ⟨i + 1, by omega⟩ _ (by dsimp only; omega) (fun _ => by kernel_rfl) (fun _ => ?_)
      exact tabC
     ·have hge : i = m := by
       by_cases hc : i < m
       ·exfalso
        obtain ⟨e3, he3, ht⟩ := tw_head (p := tailB) (l := s.data.toList.drop a) (i := i) (by rw [← hmd]; exact hc)
        rw [List.getElem?_drop] at he3
        rw [bget] at he2
        rw [he2] at he3
        cases he3
        rw [ht] at h
        cases h
       ·omega
      refine Evx.mustP ⟨Int.natCast_nonneg _, by simp only [Option.getD]; omega, by simp only [Option.getD]; omega⟩ ?_
      (conv=>arg 1;ext i;whnf)
      exact Evx.fq ((key hge))
    ·have hge : i = m := by omega
     refine Evx.mustP ⟨Int.natCast_nonneg _, by simp only [Option.getD]; omega, by simp only [Option.getD]; omega⟩ ?_
     (conv=>arg 1;ext i;whnf)
     exact Evx.fq ((key hge))
   ·exact tabC
theorem rsymB (s : ByteArray) (a : Nat) (b : Int) {c : Nat} {K : Nat → Out → G → Option Out} {r : Out}
  (hK : Evx (fun i => K i (.ret [.d (.str ⟨#[]⟩)]) ⟨tabB (qB s a b true), 1, []⟩) r) :
  Evx (fun i => runQ (pr i) (i - c) Out (.fn (.func 88)) [.ptr 1 9 0] ⟨tabB (qB s a b true), 1, []⟩ (K i)) r := by
 apply Evx.enter; (conv=>arg 1;ext i;whnf)
 exact Evx.fq (hK)
theorem rnumB (s : ByteArray) (a : Nat) (ha : a ≤ s.size) (b : Int) (most : Int) {c : Nat} {K : Nat → Out → G → Option Out} {r : Out}
  (hK : Evx (fun i => K i (.ret [.d (.int .i64 0)]) ⟨tabB (qB s a b true), 1, []⟩) r) :
  Evx (fun i => runQ (pr i) (i - c) Out (.fn (.func 105)) [.ptr 1 9 0, .d (.int .i64 most)] ⟨tabB (qB s a b true), 1, []⟩ (K i)) r := by
 apply Evx.enter; (conv=>arg 1;ext i;whnf)
 refine Evx.cq ([.ptr 1 9 0]) (qB s a b true) 1 ?_
 refine rdigitE s a ha b true ?_
 (conv=>arg 1;ext i;whnf)
 (refine Evx.bool (fun h => ?_) (fun h => ?_) <;> (try simp only [bbs] at h) <;> (first | (exfalso; omega) | exact absurd trivial h | (conv=>arg 1;ext i;whnf)))
 ·exact Evx.fq (hK)
 ·exact Evx.fq (hK)
theorem digV_dig {l : List UInt8} (h : digH l = true) : ∃ d r, l = d :: r ∧ digB d = true ∧ digV l = (d.toNat : Int) - 48 ∧ 48 ≤ (d.toNat : Int) ∧ (d.toNat : Int) ≤ 57 := by
 obtain ⟨d, r, rfl, hd⟩ := digH_cons h
 have := dig_hd.1 hd
 refine ⟨d, r, rfl, hd, ?_, by omega, by omega⟩
 unfold digV
 rw [if_pos h]
 rfl
theorem digV_no {l : List UInt8} (h : digH l = false) : digV l = -1 := by unfold digV; rw [h]; rfl
theorem rnumE (s : ByteArray) (hs : s.size < 2 ^ 30) (a : Nat) (ha : a ≤ s.size) (b : Int) (most : Int) (h9 : 9 ≤ most) (hm : most < 2 ^ 50) {c : Nat} {K : Nat → Out → G → Option Out} {r : Out}
  (hok : ∀ v n, numS most (s.data.toList.drop a) = .ok v n → Evx (fun i => K i (.ret [.d (.int .i64 v)]) ⟨tabB (qB s (a + n) b false), 1, []⟩) r)
  (hno : numS most (s.data.toList.drop a) = .no 0 → Evx (fun i => K i (.ret [.d (.int .i64 0)]) ⟨tabB (qB s a b true), 1, []⟩) r) :
  Evx (fun i => runQ (pr i) (i - c) Out (.fn (.func 105)) [.ptr 1 9 0, .d (.int .i64 most)] ⟨tabB (qB s a b false), 1, []⟩ (K i)) r := by
 apply Evx.enter; (conv=>arg 1;ext i;whnf)
 refine Evx.cq ([.ptr 1 9 0]) (qB s a b false) 1 ?_
 refine rdigitE s a ha b false ?_
 cases hdg : digH (s.data.toList.drop a) with
 | false =>
  rw [digV_no hdg]
  (conv=>arg 1;ext i;whnf)
  (refine Evx.bool (fun h => ?_) (fun h => ?_) <;> (try simp only [bbs] at h) <;> (first | (exfalso; omega) | exact absurd trivial h | (conv=>arg 1;ext i;whnf)))
  exact Evx.fq ((hno (num_none hdg)))
 | true =>
  obtain ⟨d, rr, hl, hd, hv, hd0, hd1⟩ := digV_dig hdg
  rw [hv]
  have hlen := congrArg List.length hl
  rw [drop_len, List.length_cons] at hlen
  have hinv1 : NumInv most (s.data.toList.drop a) 1 ((d.toNat : Int) - 48) := by
   have := num_step (most := most) (l := s.data.toList.drop a) (i := 0) (n := 0) ⟨Nat.zero_le _, Int.le_refl _, by omega, .inl ⟨rfl, rfl, hdg⟩⟩ (by rw [List.drop_zero]; exact hl) hd (.inl rfl) (by omega)
   rwa [Int.zero_mul, Int.zero_add] at this
  (conv=>arg 1;ext i;whnf)
  (refine Evx.bool (fun h => ?_) (fun h => ?_) <;> (try simp only [bbs] at h) <;> (first | (exfalso; omega) | exact absurd trivial h | (conv=>arg 1;ext i;whnf)))
  refine Evx.int (n' := ((a + 1 : Nat) : Int)) (by rw [wrap_small] <;> omega) ?_
  (conv=>arg 1;ext i;whnf)
  refine Evx.loopB hint105 6 (α := { p : Nat × Int // 1 ≤ p.1 ∧ NumInv most (s.data.toList.drop a) p.1 p.2 }) (fun p => [some (.ptr 1 9 0), some (.d (.int .i64 most)), some (.d (.int .i64 p.1.2))]) (fun _ => []) (fun p => qB s (a + p.1.1) b false) 2 [] (fun p => s.size - (a + p.1.1)) (fun _ => r) ?_ ⟨(1, (d.toNat : Int) - 48), Nat.le_refl _, hinv1⟩ (fun _ => rfl) (fun _ => rfl) (fun _ => rfl) (fun _ => by kernel_rfl) (fun _ => ?_)
  ·rintro ⟨⟨i, n⟩, hi1, hi, hn0, hn1, hinv⟩ L ih
   dsimp only at hi1 hi hn0 hn1 hinv ih
   have hil : a + i ≤ s.size := by
    have := drop_len s a
    omega
   (conv=>arg 1;ext i;whnf)
   (refine Evx.bool (fun h => ?_) (fun h => ?_) <;> (try simp only [bbs] at h) <;> (first | (exfalso; omega) | exact absurd trivial h | (conv=>arg 1;ext i;whnf)))
   ·refine Evx.cq ([.ptr 1 9 0]) (qB s (a + i) b false) 1 ?_
    refine rdigitE s (a + i) hil b false ?_
    rw [← List.drop_drop]
    cases hdi : digH ((s.data.toList.drop a).drop i) with
    | false =>
     rw [digV_no hdi]
     (conv=>arg 1;ext i;whnf)
     (refine Evx.bool (fun h => ?_) (fun h => ?_) <;> (try simp only [bbs] at h) <;> (first | (exfalso; omega) | exact absurd trivial h | (conv=>arg 1;ext i;whnf)))
     exact Evx.fq ((hok n i (num_stop ⟨hi, hn0, hn1, hinv⟩ (fun hc => by rw [hdi] at hc; cases hc.1))))
    | true =>
     obtain ⟨d2, r2, hl2, hd2, hv2, hd20, hd21⟩ := digV_dig hdi
     rw [hv2]
     (conv=>arg 1;ext i;whnf)
     (refine Evx.bool (fun h => ?_) (fun h => ?_) <;> (try simp only [bbs] at h) <;> (first | (exfalso; omega) | exact absurd trivial h | (conv=>arg 1;ext i;whnf)))
     refine Evx.int (n' := n * 10) (by (try dsimp only); rw [wrap_small] <;> omega) ?_
     (conv=>arg 1;ext i;whnf)
     refine Evx.cq ([.ptr 1 9 0]) (qB s (a + i) b false) 1 ?_
     refine rdigitE s (a + i) hil b false ?_
     rw [← List.drop_drop, hv2]
     (conv=>arg 1;ext i;whnf)
     refine Evx.int (n' := n * 10 + ((d2.toNat : Int) - 48)) (by (try dsimp only); rw [wrap_small] <;> omega) ?_
     (conv=>arg 1;ext i;whnf)
     (refine Evx.bool (fun h => ?_) (fun h => ?_) <;> (try simp only [bbs] at h) <;> (first | (exfalso; omega) | exact absurd trivial h | (conv=>arg 1;ext i;whnf)))
     ·refine Evx.int (n' := n * 10) (by (try dsimp only); rw [wrap_small] <;> omega) ?_
      (conv=>arg 1;ext i;whnf)
      refine Evx.cq ([.ptr 1 9 0]) (qB s (a + i) b false) 1 ?_
      refine rdigitE s (a + i) hil b false ?_
      rw [← List.drop_drop, hv2]
      (conv=>arg 1;ext i;whnf)
      refine Evx.int (n' := n * 10 + ((d2.toNat : Int) - 48)) (by (try dsimp only); rw [wrap_small] <;> omega) ?_
      (conv=>arg 1;ext i;whnf)
      have hst := num_step ⟨hi, hn0, hn1, hinv⟩ hl2 hd2 (.inr (by omega)) (by omega)
      have hln := congrArg List.length hl2
      rw [List.drop_drop, drop_len, List.length_cons] at hln
      refine Evx.int (n' := ((a + (i + 1) : Nat) : Int)) (by (try dsimp only); rw [wrap_small] <;> omega) ?_
      (conv=>arg 1;ext i;whnf)
      refine ih ⟨(i + 1, n * 10 + ((d2.toNat : Int) - 48)), by omega, hst⟩ _ (by dsimp only; omega) (fun _ => by kernel_rfl) (fun _ => ?_)
      exact tabC
     ·exact Evx.fq ((hok n i (num_over ⟨hi, hn0, hn1, hinv⟩ hl2 hd2 (.inr (by omega)) h9 (by omega))))
   ·exact Evx.fq ((hok n i (num_stop ⟨hi, hn0, hn1, hinv⟩ (fun hc => by omega))))
  ·exact tabC
theorem rendE (s : ByteArray) (hs : s.size < 2 ^ 30) (a : Nat) (ha : a ≤ s.size) (b : Int) {c : Nat} {K : Nat → Out → G → Option Out} {r : Out}
  (hok : ∀ v n, endS (s.data.toList.drop a) = .ok v n → Evx (fun i => K i (.ret [.d (.int .i64 v)]) ⟨tabB (qB s (a + n) b false), 1, []⟩) r)
  (hno : ∀ v n, endS (s.data.toList.drop a) = .no n → Evx (fun i => K i (.ret [.d (.int .i64 v)]) ⟨tabB (qB s (a + n) b true), 1, []⟩) r) :
  Evx (fun i => runQ (pr i) (i - c) Out (.fn (.func 89)) [.ptr 1 9 0] ⟨tabB (qB s a b false), 1, []⟩ (K i)) r := by
 unfold endS at hok hno
 apply Evx.enter; (conv=>arg 1;ext i;whnf)
 refine Evx.cq ([.ptr 1 9 0, .d (.int .u8 ((45 : Nat) : Int))]) (qB s a b false) 1 ?_
 refine rnextE s a ha b false 45 (by decide) ?_
 (conv=>arg 1;ext i;whnf)
 (refine Evx.bool (fun h => ?_) (fun h => ?_) <;> (try simp only [bbs] at h) <;> (first | (exfalso; omega) | exact absurd trivial h | (conv=>arg 1;ext i;whnf)))
 ·simp only [if_pos h] at hok hno
  refine Evx.cq ([.ptr 1 9 0, .d (.str (bts [45, 49]))]) (qB s a b false) 1 ?_
  refine rlitE s hs [45, 49] (by decide) (by decide) a ha b (fun n hn => ?_) (fun n hn => ?_)
  ·(conv=>arg 1;ext i;whnf)
   exact Evx.fq ((hok (-1) n (by rw [hn]; rfl)))
  ·(conv=>arg 1;ext i;whnf)
   exact Evx.fq ((hno (-1) n (by rw [hn]; rfl)))
 ·simp only [if_neg h] at hok hno
  refine Evx.cq ([.ptr 1 9 0, .d (.int .i64 1439999999)]) (qB s a b false) 1 ?_
  refine rnumE s hs a ha b 1439999999 (by decide) (by decide) (fun v n hn => ?_) (fun hn => ?_)
  ·(conv=>arg 1;ext i;whnf)
   exact Evx.fq ((hok v n hn))
  ·(conv=>arg 1;ext i;whnf)
   exact Evx.fq ((hno 0 0 hn))
theorem rendB (s : ByteArray) (a : Nat) (ha : a ≤ s.size) (b : Int) {c : Nat} {K : Nat → Out → G → Option Out} {r : Out}
  (hK : ∀ v, Evx (fun i => K i (.ret [.d (.int .i64 v)]) ⟨tabB (qB s a b true), 1, []⟩) r) :
  Evx (fun i => runQ (pr i) (i - c) Out (.fn (.func 89)) [.ptr 1 9 0] ⟨tabB (qB s a b true), 1, []⟩ (K i)) r := by
 apply Evx.enter; (conv=>arg 1;ext i;whnf)
 refine Evx.cq ([.ptr 1 9 0, .d (.int .u8 ((45 : Nat) : Int))]) (qB s a b true) 1 ?_
 refine rnextE s a ha b true 45 (by decide) ?_
 (conv=>arg 1;ext i;whnf)
 (refine Evx.bool (fun h => ?_) (fun h => ?_) <;> (try simp only [bbs] at h) <;> (first | (exfalso; omega) | exact absurd trivial h | (conv=>arg 1;ext i;whnf)))
 ·refine Evx.cq ([.ptr 1 9 0, .d (.str (bts [45, 49]))]) (qB s a b true) 1 ?_
  refine rlitB s _ a b ?_
  (conv=>arg 1;ext i;whnf)
  exact Evx.fq ((hK (-1)))
 ·refine Evx.cq ([.ptr 1 9 0, .d (.int .i64 1439999999)]) (qB s a b true) 1 ?_
  refine rnumB s a ha b _ ?_
  (conv=>arg 1;ext i;whnf)
  exact Evx.fq ((hK 0))
theorem rrefE (s : ByteArray) (hs : s.size < 2 ^ 30) (a : Nat) (ha : a ≤ s.size) (d : Int) (hd0 : 0 ≤ d) (hd1 : d < 2 ^ 40) {c : Nat} {K : Nat → Out → G → Option Out} {r : Out}
  (hok : ∀ v n, refS d (s.data.toList.drop a) = .ok v n → Evx (fun i => K i (.ret [.d v.d]) ⟨tabB (qB s (a + n) d false), 1, []⟩) r)
  (hno : ∀ (v : Rf) n, refS d (s.data.toList.drop a) = .no n → Evx (fun i => K i (.ret [.d v.d]) ⟨tabB (qB s (a + n) d true), 1, []⟩) r) :
  Evx (fun i => runQ (pr i) (i - c) Out (.fn (.func 103)) [.ptr 1 9 0] ⟨tabB (qB s a d false), 1, []⟩ (K i)) r := by
 have hlt : hd (s.data.toList.drop a) ≠ 0 → a < s.size := fun h => by
  rcases Nat.lt_or_ge a s.size with hl | hg
  ·exact hl
  ·exact absurd (hd_end hg) h
 unfold refS at hok hno
 apply Evx.enter; (conv=>arg 1;ext i;whnf)
 refine Evx.cq ([.ptr 1 9 0, .d (.int .u8 ((35 : Nat) : Int))]) (qB s a d false) 1 ?_
 refine rnextE s a ha d false 35 (by decide) ?_
 (conv=>arg 1;ext i;whnf)
 (refine Evx.bool (fun h => ?_) (fun h => ?_) <;> (try simp only [bbs] at h) <;> (first | (exfalso; omega) | exact absurd trivial h | (conv=>arg 1;ext i;whnf)))
 ·simp only [if_pos h, List.drop_drop] at hok hno
  have ha1 := hlt (by omega)
  refine Evx.int (n' := ((a + 1 : Nat) : Int)) (by rw [wrap_small] <;> omega) ?_
  (conv=>arg 1;ext i;whnf)
  refine Evx.int (n' := 1099511627776 + d) (by rw [wrap_small] <;> omega) ?_
  (conv=>arg 1;ext i;whnf)
  refine Evx.int (n' := 1099511627775 + d) (by rw [wrap_small] <;> omega) ?_
  (conv=>arg 1;ext i;whnf)
  refine Evx.cq ([.ptr 1 9 0, .d (.int .i64 (1099511627775 + d))]) (qB s (a + 1) d false) 1 ?_
  refine rnumE s hs (a + 1) (by omega) d _ (by omega) (by omega) (fun v n hn => ?_) (fun hn => ?_)
  ·have hK := hok ⟨1, v, ⟨#[]⟩⟩ (1 + n) (by rw [hn]; rfl)
   rw [← Nat.add_assoc] at hK
   (conv=>arg 1;ext i;whnf)
   exact Evx.fq (hK)
  ·have hK := hno ⟨1, 0, ⟨#[]⟩⟩ 1 (by rw [hn]; rfl)
   (conv=>arg 1;ext i;whnf)
   exact Evx.fq (hK)
 refine Evx.cq ([.ptr 1 9 0, .d (.int .u8 ((64 : Nat) : Int))]) (qB s a d false) 1 ?_
 refine rnextE s a ha d false 64 (by decide) ?_
 (conv=>arg 1;ext i;whnf)
 simp only [if_neg h] at hok hno
 (refine Evx.bool (fun h => ?_) (fun h => ?_) <;> (try simp only [bbs] at h) <;> (first | (exfalso; omega) | exact absurd trivial h | (conv=>arg 1;ext i;whnf)))
 ·simp only [if_pos h, List.drop_drop] at hok hno
  have ha1 := hlt (by omega)
  refine Evx.int (n' := ((a + 1 : Nat) : Int)) (by rw [wrap_small] <;> omega) ?_
  (conv=>arg 1;ext i;whnf)
  refine Evx.cq ([.ptr 1 9 0, .d (.int .i64 1439999999)]) (qB s (a + 1) d false) 1 ?_
  refine rnumE s hs (a + 1) (by omega) d _ (by omega) (by omega) (fun v n hn => ?_) (fun hn => ?_)
  ·have hK := hok ⟨3, v, ⟨#[]⟩⟩ (1 + n) (by rw [hn]; rfl)
   rw [← Nat.add_assoc] at hK
   (conv=>arg 1;ext i;whnf)
   exact Evx.fq (hK)
  ·have hK := hno ⟨3, 0, ⟨#[]⟩⟩ 1 (by rw [hn]; rfl)
   (conv=>arg 1;ext i;whnf)
   exact Evx.fq (hK)
 simp only [if_neg h] at hok hno
 refine Evx.cq ([.ptr 1 9 0]) (qB s a d false) 1 ?_
 refine rdigitE s a ha d false ?_
 cases hdg : digH (s.data.toList.drop a) with
 | true =>
  obtain ⟨d2, r2, hl2, hd2, hv2, hd20, hd21⟩ := digV_dig hdg
  have hh := hd_byte hl2
  rw [hv2]
  simp only [if_pos (show 48 ≤ hd (s.data.toList.drop a) ∧ hd (s.data.toList.drop a) ≤ 57 by omega)] at hok hno
  (conv=>arg 1;ext i;whnf)
  (refine Evx.bool (fun h => ?_) (fun h => ?_) <;> (try simp only [bbs] at h) <;> (first | (exfalso; omega) | exact absurd trivial h | (conv=>arg 1;ext i;whnf)))
  refine Evx.cq ([.ptr 1 9 0, .d (.int .i64 1099511627776)]) (qB s a d false) 1 ?_
  refine rnumE s hs a ha d _ (by omega) (by omega) (fun v n hn => ?_) (fun hn => ?_)
  ·have hK := hok ⟨4, v, ⟨#[]⟩⟩ n (by rw [hn]; rfl)
   (conv=>arg 1;ext i;whnf)
   exact Evx.fq (hK)
  ·have hK := hno ⟨4, 0, ⟨#[]⟩⟩ 0 (by rw [hn]; rfl)
   (conv=>arg 1;ext i;whnf)
   exact Evx.fq (hK)
 | false =>
  have hn57 : ¬ (48 ≤ hd (s.data.toList.drop a) ∧ hd (s.data.toList.drop a) ≤ 57) := fun hc => by
   rw [digH_hd, Bool.and_eq_false_iff, decide_eq_false_iff_not, decide_eq_false_iff_not] at hdg
   omega
  rw [digV_no hdg]
  simp only [if_neg hn57] at hok hno
  (conv=>arg 1;ext i;whnf)
  (refine Evx.bool (fun h => ?_) (fun h => ?_) <;> (try simp only [bbs] at h) <;> (first | (exfalso; omega) | exact absurd trivial h | (conv=>arg 1;ext i;whnf)))
  refine Evx.cq ([.ptr 1 9 0]) (qB s a d false) 1 ?_
  refine rsymE s hs a ha d (fun v n hn => ?_) (fun hn => ?_)
  ·have hK := hok ⟨2, 0, bts v⟩ n (by rw [hn]; rfl)
   (conv=>arg 1;ext i;whnf)
   exact Evx.fq (hK)
  ·have hK := hno ⟨2, 0, ⟨#[]⟩⟩ 0 (by rw [hn]; rfl)
   (conv=>arg 1;ext i;whnf)
   exact Evx.fq (hK)
end Go.Proofs.YtehkgiofchmpaaaDoor
namespace Go.Proofs.YtehkgiofchmpaaaDoor
open Go Go.Abs Go.Abs.Asks
set_option linter.unusedVariables false
set_option linter.unusedSimpArgs false
set_option linter.unusedSectionVars false
variable [Asks]
theorem ropE (s : ByteArray) (hs : s.size < 2 ^ 30) (a : Nat) (ha : a ≤ s.size) (d : Int) {c : Nat} {K : Nat → Out → G → Option Out} {r : Out}
  (hok : ∀ v n, opS (s.data.toList.drop a) = .ok v n → Evx (fun i => K i (.ret [.d (.int .i64 v)]) ⟨tabB (qB s (a + n) d false), 1, []⟩) r)
  (hno : ∀ n, opS (s.data.toList.drop a) = .no n → Evx (fun i => K i (.ret [.d (.int .i64 0)]) ⟨tabB (qB s (a + n) d true), 1, []⟩) r) :
  Evx (fun i => runQ (pr i) (i - c) Out (.fn (.func 86)) [.ptr 1 9 0] ⟨tabB (qB s a d false), 1, []⟩ (K i)) r := by
 apply Evx.enter; (conv=>arg 1;ext i;whnf)
 refine Evx.loopB hint86 3 (α := { p : Nat × Nat // 1 ≤ p.1 ∧ p.1 ≤ 13 ∧ p.2 ≤ (s.data.toList.drop a).length ∧ opS (s.data.toList.drop a) = opGo (words.drop (p.1 - 1)) p.2 (s.data.toList.drop a) }) (fun p => [some (.ptr 1 9 0), some (.d (.int .i64 a)), some (.d (.int .i64 (p.1.1 : Nat)))]) (fun _ => []) (fun p => qB s (a + p.1.2) d false) 2 [] (fun p => 13 - p.1.1) (fun _ => r) ?_ ⟨(1, 0), by simp, by simp, Nat.zero_le _, rfl⟩ (fun _ => rfl) (fun _ => rfl) (fun _ => rfl) (fun _ => by kernel_rfl) (fun _ => ?_)
 ·rintro ⟨⟨k, best⟩, h1, h2, hbest, hinv⟩ L ih; dsimp only at h1 h2 hbest hinv ih ⊢; (conv=>arg 1;ext i;whnf)
  rw [drop_len] at hbest
  (refine Evx.bool (fun h => ?_) (fun h => ?_) <;> (try simp only [bbs] at h) <;> (first | (exfalso; omega) | exact absurd trivial h | (conv=>arg 1;ext i;whnf)))
  ·have hk : k ≤ 12 := by omega
   have hwl := word_len h1 hk
   have hle := lcp_le (wordOf k) (s.data.toList.drop a)
   rw [drop_len] at hle
   rw [words_at h1 hk] at hinv
   refine Evx.call (rkeyword_ev k h1 hk) ?_
   (conv=>arg 1;ext i;whnf)
   refine Evx.loopB hint86 7 (α := { n : Nat // n ≤ (wordOf k).length ∧ a + n ≤ s.size ∧ lcp (wordOf k) (s.data.toList.drop a) = n + lcp ((wordOf k).drop n) (s.data.toList.drop (a + n)) }) (fun n => [some (.ptr 1 9 0), some (.d (.int .i64 a)), some (.d (.int .i64 (k : Nat))), some (.d (.str (bts (wordOf k)))), some (.d (.int .i64 (n.1 : Nat)))]) (fun _ => []) (fun _ => qB s (a + best) d false) 2 [] (fun n => (wordOf k).length - n.1) (fun _ => r) ?_ ⟨0, Nat.zero_le _, ha, by simp⟩ (fun _ => rfl) (fun _ => rfl) (fun _ => rfl) (fun _ => by kernel_rfl) (fun _ => ?_)
   ·rintro ⟨n, hn, han, hlcp⟩ L2 ih2; dsimp only at ih2 ⊢; (conv=>arg 1;ext i;whnf)
    have stop : (∀ c w' l', (wordOf k).drop n = c :: w' → s.data.toList.drop (a + n) = c :: l' → False) → lcp (wordOf k) (s.data.toList.drop a) = n := fun hx => by
     rw [hlcp]
     cases hw : (wordOf k).drop n with
     | nil => simp [lcp]
     | cons c w' =>
      cases hl : s.data.toList.drop (a + n) with
      | nil => simp [lcp]
      | cons d l' =>
       simp only [lcp]
       rw [if_neg (fun e => hx c w' l' hw (by rw [hl, e]))]
       rfl
    have hbz := bts_size (wordOf k)
    (refine Evx.bool (fun h => ?_) (fun h => ?_) <;> (try simp only [bbs] at h) <;> (first | (exfalso; omega) | exact absurd trivial h | (conv=>arg 1;ext i;whnf)))
    ·refine Evx.int (n' := ((a + n : Nat) : Int)) (by (try dsimp only); rw [wrap_small] <;> omega) ?_
     (conv=>arg 1;ext i;whnf)
     (refine Evx.bool (fun h => ?_) (fun h => ?_) <;> (try simp only [bbs] at h) <;> (first | (exfalso; omega) | exact absurd trivial h | (conv=>arg 1;ext i;whnf)))
     ·obtain ⟨e, he⟩ := get_some (l := wordOf k) (i := n) (by omega)
      have hwe := bts_get he
      have hwd := drop_cons he
      obtain ⟨b, hb, hd⟩ := byte_at (s := s) (a := a + n) (by omega)
      refine Evx.int (n' := ((a + n : Nat) : Int)) (by (try dsimp only); rw [wrap_small] <;> omega) ?_
      (conv=>arg 1;ext i;whnf)
      refine Evx.chr rfl hb ?_
      (conv=>arg 1;ext i;whnf)
      refine Evx.chr rfl hwe ?_
      (conv=>arg 1;ext i;whnf)
      (refine Evx.bool (fun h => ?_) (fun h => ?_) <;> (try simp only [bbs] at h) <;> (first | (exfalso; omega) | exact absurd trivial h | (conv=>arg 1;ext i;whnf)))
      ·refine Evx.int (wrap_succ (n := n) (by omega)) ?_
       (conv=>arg 1;ext i;whnf)
       have hbe : b = e := UInt8.toNat_inj.1 (by omega)
       have hl2 := lcp_step (by rw [List.drop_drop]; exact hlcp) hwd (by rw [List.drop_drop, hd, hbe])
       rw [List.drop_drop] at hl2
       refine ih2 ⟨n + 1, by omega, by omega, hl2⟩ _ (by dsimp only; omega) (fun _ => by kernel_rfl) (fun _ => ?_)
       exact tabC
      ·have hl := stop (fun c w' l' q1 q2 => by
        rw [hwd] at q1
        rw [hd] at q2
        obtain ⟨rfl, _⟩ := List.cons.inj q1
        obtain ⟨rfl, _⟩ := List.cons.inj q2
        omega)
       refine Evx.int (n' := ((a + n : Nat) : Int)) (by (try dsimp only); rw [wrap_small] <;> omega) ?_
       (conv=>arg 1;ext i;whnf)
       refine Evx.int (n' := ((a + max best n : Nat) : Int)) (by simp only [extI]; split <;> simp_all <;> omega) ?_
       (conv=>arg 1;ext i;whnf)
       (refine Evx.bool (fun h => ?_) (fun h => ?_) <;> (try simp only [bbs] at h) <;> (first | (exfalso; omega) | exact absurd trivial h | (conv=>arg 1;ext i;whnf)))
       refine Evx.int (wrap_succ (n := k) (by omega)) ?_
       (conv=>arg 1;ext i;whnf)
       refine ih ⟨(k + 1, max best n), by omega, by omega, by rw [drop_len]; dsimp only; omega, ?_⟩ _ (by dsimp only; omega) (fun _ => by kernel_rfl) (fun _ => ?_)
       ·dsimp only
        rw [hinv]
        simp only [opGo, hl]
        rw [if_neg (by omega), Nat.add_sub_cancel]
       ·exact tabC
     ·have hl := stop (fun c w' l' q1 q2 => by
       rw [drop_end (by omega)] at q2; cases q2)
      refine Evx.int (n' := ((a + n : Nat) : Int)) (by (try dsimp only); rw [wrap_small] <;> omega) ?_
      (conv=>arg 1;ext i;whnf)
      refine Evx.int (n' := ((a + max best n : Nat) : Int)) (by simp only [extI]; split <;> simp_all <;> omega) ?_
      (conv=>arg 1;ext i;whnf)
      (refine Evx.bool (fun h => ?_) (fun h => ?_) <;> (try simp only [bbs] at h) <;> (first | (exfalso; omega) | exact absurd trivial h | (conv=>arg 1;ext i;whnf)))
      refine Evx.int (wrap_succ (n := k) (by omega)) ?_
      (conv=>arg 1;ext i;whnf)
      refine ih ⟨(k + 1, max best n), by omega, by omega, by rw [drop_len]; dsimp only; omega, ?_⟩ _ (by dsimp only; omega) (fun _ => by kernel_rfl) (fun _ => ?_)
      ·dsimp only
       rw [hinv]
       simp only [opGo, hl]
       rw [if_neg (by omega), Nat.add_sub_cancel]
      ·exact tabC
    ·have hl := stop (fun c w' l' q1 q2 => by
      rw [List.drop_eq_nil_of_le (by omega)] at q1; cases q1)
     refine Evx.int (n' := ((a + n : Nat) : Int)) (by (try dsimp only); rw [wrap_small] <;> omega) ?_
     (conv=>arg 1;ext i;whnf)
     refine Evx.int (n' := ((a + max best n : Nat) : Int)) (by simp only [extI]; split <;> simp_all <;> omega) ?_
     (conv=>arg 1;ext i;whnf)
     (refine Evx.bool (fun h => ?_) (fun h => ?_) <;> (try simp only [bbs] at h) <;> (first | (exfalso; omega) | exact absurd trivial h | (conv=>arg 1;ext i;whnf)))
     (refine Evx.bool (fun h => ?_) (fun h => ?_) <;> (try simp only [bbs] at h) <;> (first | (exfalso; omega) | exact absurd trivial h | (conv=>arg 1;ext i;whnf)))
     ·have hf : opS (s.data.toList.drop a) = .ok (k : Int) n := by
       rw [hinv]
       simp only [opGo, hl]
       rw [if_pos (by omega)]
      refine Evx.int (n' := ((a + n : Nat) : Int)) (by (try dsimp only); rw [wrap_small] <;> omega) ?_
      (conv=>arg 1;ext i;whnf)
      exact Evx.fq ((hok _ n hf))
     ·refine Evx.int (wrap_succ (n := k) (by omega)) ?_
      (conv=>arg 1;ext i;whnf)
      refine ih ⟨(k + 1, max best n), by omega, by omega, by rw [drop_len]; dsimp only; omega, ?_⟩ _ (by dsimp only; omega) (fun _ => by kernel_rfl) (fun _ => ?_)
      ·dsimp only
       rw [hinv]
       simp only [opGo, hl]
       rw [if_neg (by omega), Nat.add_sub_cancel]
      ·exact tabC
   ·exact tabC
  ·have hk : k = 13 := by omega
   subst hk
   have hf : opS (s.data.toList.drop a) = .no best := by rw [hinv]; rfl
   exact Evx.fq ((hno best hf))
 ·exact tabC
def aQ (s : ByteArray) (a : Nat) (d : Int) (x : Bool) (y : Box) : List ((Nat × Nat) × Box) := qB s a d x ++ [((2, 2), zeroBox), ((2, 3), y)]
def atBx (nm : List UInt8) (zs : List (List D)) : Box := ⟨[.d (.int .i64 3), .d (.str (bts nm)), .own (.box 2 3 2) 3 zs, .d (.int .i64 0), .d (.int .i64 0), .d .nils], false, (0, 0)⟩
def atNil (nm : List UInt8) : Box := ⟨[.d (.int .i64 3), .d (.str (bts nm)), .d .nils, .d (.int .i64 0), .d (.int .i64 0), .d .nils], false, (0, 0)⟩
set_option maxHeartbeats 4000000 in
theorem ratomE (s : ByteArray) (hs : s.size < 2 ^ 30) (a : Nat) (ha : a ≤ s.size) (d : Int) (hd0 : 0 ≤ d) (hd1 : d < 2 ^ 40) {c : Nat} {K : Nat → Out → G → Option Out} {r : Out}
  (hok : ∀ v n, atomS d (s.data.toList.drop a) = .ok v n → Evx (fun i => K i (.ret [.d v.d]) ⟨tabB (qB s (a + n) d false), 1, []⟩) r)
  (hno : ∀ (v : Fm) n, atomS d (s.data.toList.drop a) = .no n → Evx (fun i => K i (.ret [.d v.d]) ⟨tabB (qB s (a + n) d true), 1, []⟩) r) :
  Evx (fun i => runQ (pr i) (i - c) Out (.fn (.func 85)) [.ptr 1 9 0] ⟨tabB (qB s a d false), 1, []⟩ (K i)) r := by
 unfold atomS at hok hno
 apply Evx.enter; (conv=>arg 1;ext i;whnf)
 refine Evx.cq ([.ptr 1 9 0]) (qB s a d false) 1 ?_
 refine rsymE s hs a ha d (fun nm n1 h1 => ?_) (fun h1 => ?_)
 ·have hn1 := (sym_len (s.data.toList.drop a)).1
  rw [h1, drop_len] at hn1
  have hn1 : n1 ≤ s.size - a := hn1
  rw [thenOk h1, List.drop_drop] at hok hno
  refine Evx.tk (qB s (a + n1) d false ++ [((2, 2), zeroBox)]) 2 ?_
  (conv=>arg 1;ext i;whnf)
  refine Evx.cq ([.ptr 1 9 0, .d (.str (bts [40]))]) (qB s (a + n1) d false) 1 ?_
  refine rlitE s hs [40] (by simp) (by decide) (a + n1) (by omega) d (fun n2 h2 => ?_) (fun n2 h2 => ?_)
  ·have hn2 := (lit_len [40] (s.data.toList.drop (a + n1))).1
   rw [h2, drop_len] at hn2
   have hn2 : n2 ≤ s.size - (a + n1) := hn2
   rw [thenOk h2, List.drop_drop] at hok hno
   refine Evx.tk (aQ s (a + n1 + n2) d false (atNil nm)) 2 ?_
   (conv=>arg 1;ext i;whnf)
   have hok' : ∀ zs n, argsS d 3 (s.data.toList.drop (a + n1 + n2)) = .ok zs n → Evx (fun i => K i (.ret [.d (Fm.node 3 (bts nm) zs 0 0 []).d]) ⟨tabB (qB s (a + n1 + n2 + n) d false), 1, []⟩) r := fun zs n h => by
    have := hok (Fm.node 3 (bts nm) zs 0 0 []) (n1 + (n2 + n)) (by rw [h]; rfl)
    rwa [← Nat.add_assoc, ← Nat.add_assoc] at this
   have hno' : ∀ zs n, argsS d 3 (s.data.toList.drop (a + n1 + n2)) = .no n → Evx (fun i => K i (.ret [.d (Fm.node 3 (bts nm) zs 0 0 []).d]) ⟨tabB (qB s (a + n1 + n2 + n) d true), 1, []⟩) r := fun zs n h => by
    have := hno (Fm.node 3 (bts nm) zs 0 0 []) (n1 + (n2 + n)) (by rw [h]; rfl)
    rwa [← Nat.add_assoc, ← Nat.add_assoc] at this
   clear hok hno
   obtain ⟨b, hb⟩ : ∃ b, b = a + n1 + n2 := ⟨_, rfl⟩
   rw [← hb] at hok' hno' ⊢
   have hbs : b ≤ s.size := by omega
   refine Evx.loopB hint85 3 (α := { p : List Rf × Nat × Bool // p.1.length ≤ 3 ∧ b + p.2.1 ≤ s.size ∧ (p.2.2 = true → argsS d 3 (s.data.toList.drop b) = .no p.2.1) ∧ (p.2.2 = false → p.1.length ≤ 2 ∧ argsS d 3 (s.data.toList.drop b) = (mapP (fun rs => p.1 ++ rs) (argsS d (3 - p.1.length) (s.data.toList.drop (b + p.2.1)))).up p.2.1) }) (fun _ => [some (.ptr 1 9 0), some (.ptr 2 2 0), some (.ptr 2 3 0)]) (fun p => [some zeroBox, some (atBx nm (refs p.1.1))]) (fun p => qB s (b + p.1.2.1) d p.1.2.2) 2 [] (fun p => if p.1.2.2 then 0 else 4 - p.1.1.length) (fun _ => r) ?_ ⟨([], 0, false), by simp, hbs, by simp, fun _ => ⟨by simp, by dsimp only; rw [args_id, up_zero]; rfl⟩⟩ (fun _ => rfl) (fun _ => rfl) (fun _ => rfl) (fun _ => by kernel_rfl) (fun _ => ?_)
   ·rintro ⟨⟨zs, j, x⟩, hz3, hj, hx1, hx2⟩ L ih
    dsimp only at hz3 hj hx1 hx2 ih ⊢
    cases x with
    | true =>
     have hx := hx1 rfl
     have hK := hno' zs j hx
     unfold Fm.d at hK
     simp only [as_node] at hK
     (conv=>arg 1;ext i;whnf)
     refine Evx.cq ([.ptr 1 9 0, .d (.str (bts [41]))]) (qB s (b + j) d true) 1 ?_
     refine rlitB s _ (b + j) d ?_
     refine Evx.tk (aQ s (b + j) d true (atBx nm (refs zs))) 2 ?_
     (conv=>arg 1;ext i;whnf)
     exact Evx.fq (hK)
    | false =>
     obtain ⟨hz, hinv⟩ := hx2 rfl
     obtain ⟨k, hk⟩ : ∃ k, 3 - zs.length = k + 1 := ⟨2 - zs.length, by omega⟩
     rw [hk, args_succ d k] at hinv
     (conv=>arg 1;ext i;whnf)
     refine Evx.cq ([.ptr 1 9 0]) (qB s (b + j) d false) 1 ?_
     refine rrefE s hs (b + j) hj d hd0 hd1 (fun v n3 h3 => ?_) (fun v n3 h3 => ?_)
     ·have hn3 := (ref_len d (s.data.toList.drop (b + j))).1
      rw [h3, drop_len] at hn3
      have hn3 : n3 ≤ s.size - (b + j) := hn3
      rw [thenOk h3, List.drop_drop] at hinv
      refine Evx.tk (aQ s (b + j + n3) d false (atBx nm (refs zs))) 2 ?_
      (conv=>arg 1;ext i;whnf)
      refine Evx.appd (m := ((refs zs).length + 1) * 33) rfl (by rw [refs_len]; omega) ?_
      (conv=>arg 1;ext i;whnf)
      have hrl := refs_len zs
      have last : hd (s.data.toList.drop (b + j + n3)) ≠ 44 ∨ k = 0 → argsS d 3 (s.data.toList.drop b) = (mapP (fun rs => zs ++ rs) ((mapP (fun _ => [v]) (litS [41] (s.data.toList.drop (b + j + n3)))).up n3)).up j := fun h => by
       rw [hinv, if_pos h]
      have more : ¬ (hd (s.data.toList.drop (b + j + n3)) ≠ 44 ∨ k = 0) → argsS d 3 (s.data.toList.drop b) = (mapP (fun rs => zs ++ rs) ((thenP (litS [44, 32] (s.data.toList.drop (b + j + n3))) (fun _ l => mapP (fun rs => v :: rs) (argsS d k l)) (s.data.toList.drop (b + j + n3))).up n3)).up j := fun h => by
       rw [hinv, if_neg h]
      (refine Evx.bool (fun h => ?_) (fun h => ?_) <;> (try simp only [bbs] at h) <;> (first | (exfalso; omega) | exact absurd trivial h | (conv=>arg 1;ext i;whnf)))
      ·have hk0 : k = 0 := by simp at h; omega
       have hlast := last (.inr hk0)
       refine Evx.cq ([.ptr 1 9 0, .d (.str (bts [41]))]) (qB s (b + j + n3) d false) 1 ?_
       refine rlitE s hs [41] (by simp) (by decide) (b + j + n3) (by omega) d (fun n4 h4 => ?_) (fun n4 h4 => ?_)
       ·have hK := hok' (zs ++ [v]) (j + n3 + n4) (by rw [hlast, h4]; simp [mapP, Rd.up, Nat.add_assoc])
        unfold Fm.d at hK
        simp only [as_node] at hK
        rw [refs_one] at hK
        rw [← Nat.add_assoc, ← Nat.add_assoc] at hK
        refine Evx.tk (aQ s (b + j + n3 + n4) d false (atBx nm (refs zs ++ [rfC v]))) 2 ?_
        (conv=>arg 1;ext i;whnf)
        exact Evx.fq (hK)
       ·have hK := hno' (zs ++ [v]) (j + n3 + n4) (by rw [hlast, h4]; simp [mapP, Rd.up, Nat.add_assoc])
        unfold Fm.d at hK
        simp only [as_node] at hK
        rw [refs_one] at hK
        rw [← Nat.add_assoc, ← Nat.add_assoc] at hK
        refine Evx.tk (aQ s (b + j + n3 + n4) d true (atBx nm (refs zs ++ [rfC v]))) 2 ?_
        (conv=>arg 1;ext i;whnf)
        exact Evx.fq (hK)
      ·have hk0 : ¬ k = 0 := by simp at h; omega
       refine Evx.cq ([.ptr 1 9 0, .d (.int .u8 ((44 : Nat) : Int))]) (qB s (b + j + n3) d false) 1 ?_
       refine rnextE s (b + j + n3) (by omega) d false 44 (by decide) ?_
       refine Evx.tk (aQ s (b + j + n3) d false (atBx nm (refs zs ++ [rfC v]))) 2 ?_
       (conv=>arg 1;ext i;whnf)
       (refine Evx.bool (fun h => ?_) (fun h => ?_) <;> (try simp only [bbs] at h) <;> (first | (exfalso; omega) | exact absurd trivial h | (conv=>arg 1;ext i;whnf)))
       ·have hlast := last (.inl h)
        refine Evx.cq ([.ptr 1 9 0, .d (.str (bts [41]))]) (qB s (b + j + n3) d false) 1 ?_
        refine rlitE s hs [41] (by simp) (by decide) (b + j + n3) (by omega) d (fun n4 h4 => ?_) (fun n4 h4 => ?_)
        ·have hK := hok' (zs ++ [v]) (j + n3 + n4) (by rw [hlast, h4]; simp [mapP, Rd.up, Nat.add_assoc])
         unfold Fm.d at hK
         simp only [as_node] at hK
         rw [refs_one] at hK
         rw [← Nat.add_assoc, ← Nat.add_assoc] at hK
         refine Evx.tk (aQ s (b + j + n3 + n4) d false (atBx nm (refs zs ++ [rfC v]))) 2 ?_
         (conv=>arg 1;ext i;whnf)
         exact Evx.fq (hK)
        ·have hK := hno' (zs ++ [v]) (j + n3 + n4) (by rw [hlast, h4]; simp [mapP, Rd.up, Nat.add_assoc])
         unfold Fm.d at hK
         simp only [as_node] at hK
         rw [refs_one] at hK
         rw [← Nat.add_assoc, ← Nat.add_assoc] at hK
         refine Evx.tk (aQ s (b + j + n3 + n4) d true (atBx nm (refs zs ++ [rfC v]))) 2 ?_
         (conv=>arg 1;ext i;whnf)
         exact Evx.fq (hK)
       ·have hmore := more (fun hc => by rcases hc with hc | hc; exact hc h; exact hk0 hc)
        refine Evx.cq ([.ptr 1 9 0, .d (.str (bts [44, 32]))]) (qB s (b + j + n3) d false) 1 ?_
        refine rlitE s hs [44, 32] (by simp) (by decide) (b + j + n3) (by omega) d (fun n4 h4 => ?_) (fun n4 h4 => ?_)
        ·have hn4 := (lit_len [44, 32] (s.data.toList.drop (b + j + n3))).1
         rw [h4, drop_len] at hn4
         have hn4 : n4 ≤ s.size - (b + j + n3) := hn4
         rw [thenOk h4, List.drop_drop] at hmore
         refine Evx.tk (aQ s (b + j + n3 + n4) d false (atBx nm (refs zs ++ [rfC v]))) 2 ?_
         (conv=>arg 1;ext i;whnf)
         refine ih ⟨(zs ++ [v], j + n3 + n4, false), ?_, ?_, by simp, fun _ => ⟨?_, ?_⟩⟩ _ ?_ ?_ (fun _ => ?_)
         ·rw [List.length_append, List.length_singleton]; omega
         ·dsimp only; omega
         ·dsimp only; rw [List.length_append, List.length_singleton]; omega
         ·dsimp only
          rw [hmore, List.length_append, List.length_singleton, show 3 - (zs.length + 1) = k by omega, show b + (j + n3 + n4) = b + j + n3 + n4 by omega]
          cases argsS d k (s.data.toList.drop (b + j + n3 + n4)) <;> simp [mapP, Rd.up, Nat.add_assoc]
         ·dsimp only; rw [if_neg (by simp), if_neg (by simp), List.length_append, List.length_singleton]; omega
         ·intro i
          rw [refs_one]
          kernel_rfl
         ·refine Eq.trans ?_ (congrArg (fun m => tabB (qB s m d false)) (show b + j + n3 + n4 = b + (j + n3 + n4) by omega))
          exact tabC
        ·have hn4 := (lit_len [44, 32] (s.data.toList.drop (b + j + n3))).1
         rw [h4, drop_len] at hn4
         have hn4 : n4 ≤ s.size - (b + j + n3) := hn4
         refine Evx.tk (aQ s (b + j + n3 + n4) d true (atBx nm (refs zs ++ [rfC v]))) 2 ?_
         (conv=>arg 1;ext i;whnf)
         refine ih ⟨(zs ++ [v], j + n3 + n4, true), ?_, ?_, fun _ => ?_, by simp⟩ _ ?_ ?_ (fun _ => ?_)
         ·rw [List.length_append, List.length_singleton]; omega
         ·dsimp only; omega
         ·dsimp only; rw [hmore, thenNo h4]; simp [mapP, Rd.up, Nat.add_assoc]
         ·dsimp only; rw [if_pos rfl, if_neg (by simp)]; omega
         ·intro i
          rw [refs_one]
          kernel_rfl
         ·refine Eq.trans ?_ (congrArg (fun m => tabB (qB s m d true)) (show b + j + n3 + n4 = b + (j + n3 + n4) by omega))
          exact tabC
     ·have hK := hno' (zs ++ [v]) (j + n3) (by rw [hinv, thenNo h3]; rfl)
      unfold Fm.d at hK
      simp only [as_node] at hK
      rw [refs_one, ← Nat.add_assoc] at hK
      refine Evx.tk (aQ s (b + j + n3) d true (atBx nm (refs zs))) 2 ?_
      (conv=>arg 1;ext i;whnf)
      refine Evx.appd (m := ((refs zs).length + 1) * 33) rfl (by rw [refs_len]; omega) ?_
      (conv=>arg 1;ext i;whnf)
      refine Evx.cq ([.ptr 1 9 0, .d (.str (bts [41]))]) (qB s (b + j + n3) d true) 1 ?_
      refine rlitB s _ (b + j + n3) d ?_
      refine Evx.tk (aQ s (b + j + n3) d true (atBx nm (refs zs ++ [rfC v]))) 2 ?_
      (conv=>arg 1;ext i;whnf)
      exact Evx.fq (hK)
   ·exact tabC
  ·have hK := hno (Fm.node 3 (bts nm) [] 0 0 []) (n1 + n2) (by rw [thenNo h2]; rfl)
   rw [← Nat.add_assoc] at hK
   refine Evx.tk (aQ s (a + n1 + n2) d true (atNil nm)) 2 ?_
   (conv=>arg 1;ext i;whnf)
   refine Evx.loopB hint85 3 (α := Unit) (fun _ => [some (.ptr 1 9 0), some (.ptr 2 2 0), some (.ptr 2 3 0)]) (fun p => [some zeroBox, some (atBx nm [])]) (fun p => qB s (a + n1 + n2) d true) 2 [] (fun p => 0) (fun _ => r) ?_ () (fun _ => rfl) (fun _ => rfl) (fun _ => rfl) (fun _ => by kernel_rfl) (fun _ => ?_)
   ·intro _ L ih; (conv=>arg 1;ext i;whnf)
    refine Evx.cq ([.ptr 1 9 0, .d (.str (bts [41]))]) (qB s (a + n1 + n2) d true) 1 ?_
    refine rlitB s _ (a + n1 + n2) d ?_
    refine Evx.tk (aQ s (a + n1 + n2) d true (atBx nm [])) 2 ?_
    (conv=>arg 1;ext i;whnf)
    exact Evx.fq (hK)
   ·exact tabC
 ·have hK := hno (Fm.node 3 ⟨#[]⟩ [] 0 0 []) 0 (by rw [thenNo h1])
  refine Evx.tk (qB s a d true ++ [((2, 2), zeroBox)]) 2 ?_
  (conv=>arg 1;ext i;whnf)
  refine Evx.cq ([.ptr 1 9 0, .d (.str (bts [40]))]) (qB s a d true) 1 ?_
  refine rlitB s _ a d ?_
  refine Evx.tk (aQ s a d true (atNil [])) 2 ?_
  (conv=>arg 1;ext i;whnf)
  refine Evx.loopB hint85 3 (α := Unit) (fun _ => [some (.ptr 1 9 0), some (.ptr 2 2 0), some (.ptr 2 3 0)]) (fun p => [some zeroBox, some (atBx [] [])]) (fun p => qB s a d true) 2 [] (fun p => 0) (fun _ => r) ?_ () (fun _ => rfl) (fun _ => rfl) (fun _ => rfl) (fun _ => by kernel_rfl) (fun _ => ?_)
  ·intro _ L ih; (conv=>arg 1;ext i;whnf)
   refine Evx.cq ([.ptr 1 9 0, .d (.str (bts [41]))]) (qB s (a) d true) 1 ?_
   refine rlitB s _ (a) d ?_
   refine Evx.tk (aQ s a d true (atBx [] [])) 2 ?_
   (conv=>arg 1;ext i;whnf)
   exact Evx.fq (hK)
  ·exact tabC
end Go.Proofs.YtehkgiofchmpaaaDoor
