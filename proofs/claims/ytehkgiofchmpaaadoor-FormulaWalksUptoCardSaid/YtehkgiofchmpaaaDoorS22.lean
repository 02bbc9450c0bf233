/- Formulas as plain data: how they read, how large they are, which are valid. No program. -/
import Derived.Test.YtehkgiofchmpaaaDoorAbsKe
namespace Go.Abs
open Go
set_option linter.unusedVariables false
set_option linter.unusedSimpArgs false

structure Rf where
  kind : Int
  idx : Int
  nm : ByteArray
deriving DecidableEq

inductive Fm where
  | node (op : Int) (nm : ByteArray) (as : List Rf) (fr to : Int) (ks : List Fm)

def Fm.op : Fm → Int | .node o _ _ _ _ _ => o
def Fm.nm : Fm → ByteArray | .node _ n _ _ _ _ => n
def Fm.as : Fm → List Rf | .node _ _ a _ _ _ => a
def Fm.fr : Fm → Int | .node _ _ _ f _ _ => f
def Fm.to : Fm → Int | .node _ _ _ _ t _ => t
def Fm.ks : Fm → List Fm | .node _ _ _ _ _ k => k
theorem Fm.eta (t : Fm) : t = .node t.op t.nm t.as t.fr t.to t.ks := by cases t; rfl

def Rf.cells (r : Rf) : List D := [.int .i64 r.kind, .int .i64 r.idx, .str r.nm]
def Rf.d (r : Rf) : D := .agg [.int .i64 r.kind, .int .i64 r.idx, .str r.nm]
def refs (as : List Rf) : List (List D) := as.map fun r => [.int .i64 r.kind, .int .i64 r.idx, .str r.nm]

mutual
  def Fm.cells : Fm → List D
    | .node o n a f t k => [.int .i64 o, .str n, .sl 3 (refs a), .int .i64 f, .int .i64 t, .sl 6 (fms k)]
  def fms : List Fm → List (List D)
    | [] => []
    | t :: ts => t.cells :: fms ts
end
def Fm.d (t : Fm) : D := .agg [.int .i64 t.op, .str t.nm, .sl 3 (refs t.as), .int .i64 t.fr, .int .i64 t.to, .sl 6 (fms t.ks)]
theorem Fm.cells_eq (t : Fm) : t.cells = [.int .i64 t.op, .str t.nm, .sl 3 (refs t.as), .int .i64 t.fr, .int .i64 t.to, .sl 6 (fms t.ks)] := by
  cases t; simp only [Fm.cells, Fm.op, Fm.nm, Fm.as, Fm.fr, Fm.to, Fm.ks]

theorem fms_map : ∀ ts : List Fm, fms ts = ts.map Fm.cells
  | [] => by simp [fms]
  | t :: ts => by simp only [fms, List.map]; rw [fms_map ts]
theorem fms_len (ts : List Fm) : (fms ts).length = ts.length := by rw [fms_map]; simp
theorem refs_len (as : List Rf) : (refs as).length = as.length := by simp [refs]
theorem fms_app (ts us : List Fm) : fms (ts ++ us) = fms ts ++ fms us := by simp [fms_map]
theorem refs_app (as bs : List Rf) : refs (as ++ bs) = refs as ++ refs bs := by simp [refs]
theorem fms_get {ts : List Fm} {i : Nat} {t : Fm} (h : ts[i]? = some t) : (fms ts)[i]? = some [.int .i64 t.op, .str t.nm, .sl 3 (refs t.as), .int .i64 t.fr, .int .i64 t.to, .sl 6 (fms t.ks)] := by
  rw [fms_map, List.getElem?_map, h, ← t.cells_eq]; rfl
theorem refs_get {as : List Rf} {i : Nat} {r : Rf} (h : as[i]? = some r) : (refs as)[i]? = some [.int .i64 r.kind, .int .i64 r.idx, .str r.nm] := by
  rw [refs, List.getElem?_map, h]; rfl

def rbulks : List Rf → Nat
  | [] => 0
  | r :: rs => 1 + r.nm.size + rbulks rs
theorem rbulks_len : ∀ as : List Rf, as.length ≤ rbulks as
  | [] => by simp [rbulks]
  | a :: as => by simp only [rbulks, List.length_cons]; have := rbulks_len as; omega
theorem rbulk_mem : ∀ {as : List Rf} {r : Rf}, r ∈ as → r.nm.size < rbulks as
  | a :: as, r, h => by
    simp only [rbulks]
    rcases List.mem_cons.1 h with rfl | h
    · omega
    · have := rbulk_mem h; omega
mutual
  /-- Nodes, references and bytes together. -/
  def Fm.bulk : Fm → Nat
    | .node _ m a _ _ k => 1 + m.size + rbulks a + fbulks k
  def fbulks : List Fm → Nat
    | [] => 0
    | t :: ts => t.bulk + fbulks ts
  def Fm.size : Fm → Nat
    | .node _ _ _ _ _ k => 1 + fsizes k
  def fsizes : List Fm → Nat
    | [] => 0
    | t :: ts => t.size + fsizes ts
  def Fm.depth : Fm → Nat
    | .node _ _ _ _ _ k => fdepths k + 1
  def fdepths : List Fm → Nat
    | [] => 0
    | t :: ts => max t.depth (fdepths ts)
end
theorem Fm.bulk_eq (t : Fm) : t.bulk = 1 + t.nm.size + rbulks t.as + fbulks t.ks := by cases t; simp only [Fm.bulk, Fm.nm, Fm.as, Fm.ks]
theorem Fm.size_eq (t : Fm) : t.size = 1 + fsizes t.ks := by cases t; simp only [Fm.size, Fm.ks]
theorem Fm.depth_eq (t : Fm) : t.depth = fdepths t.ks + 1 := by cases t; simp only [Fm.depth, Fm.ks]
theorem Fm.bulk_pos (t : Fm) : 1 ≤ t.bulk := by rw [t.bulk_eq]; omega
theorem fbulks_len : ∀ ts : List Fm, ts.length ≤ fbulks ts
  | [] => by simp [fbulks]
  | t :: ts => by simp only [fbulks, List.length_cons]; have := fbulks_len ts; have := t.bulk_pos; omega
mutual
  theorem fsize_bulk : ∀ t : Fm, t.size ≤ t.bulk
    | .node _ _ as _ _ ks => by simp only [Fm.size, Fm.bulk]; have := fsizes_bulks ks; omega
  theorem fsizes_bulks : ∀ ts : List Fm, fsizes ts ≤ fbulks ts
    | [] => by simp [fsizes, fbulks]
    | t :: ts => by simp only [fsizes, fbulks]; have := fsize_bulk t; have := fsizes_bulks ts; omega
end
mutual
  theorem fdepth_bulk : ∀ t : Fm, t.depth ≤ t.bulk
    | .node _ _ as _ _ ks => by simp only [Fm.depth, Fm.bulk]; have := fdepths_bulks ks; omega
  theorem fdepths_bulks : ∀ ts : List Fm, fdepths ts ≤ fbulks ts
    | [] => by simp [fdepths, fbulks]
    | t :: ts => by simp only [fdepths, fbulks]; have := fdepth_bulk t; have := fdepths_bulks ts; omega
end
theorem fbulk_mem : ∀ {ts : List Fm} {t : Fm}, t ∈ ts → t.bulk ≤ fbulks ts
  | u :: ts, t, h => by
    simp only [fbulks]
    rcases List.mem_cons.1 h with rfl | h
    · omega
    · have := fbulk_mem h; omega
theorem fbulks_app : ∀ (ts us : List Fm), fbulks (ts ++ us) = fbulks ts + fbulks us
  | [], us => by simp [fbulks]
  | t :: ts, us => by simp only [List.cons_append, fbulks]; rw [fbulks_app ts us]; omega
theorem fsizes_app : ∀ (ts us : List Fm), fsizes (ts ++ us) = fsizes ts + fsizes us
  | [], us => by simp [fsizes]
  | t :: ts, us => by simp only [List.cons_append, fsizes]; rw [fsizes_app ts us]; omega
theorem fdepths_app : ∀ (ts us : List Fm), fdepths (ts ++ us) = max (fdepths ts) (fdepths us)
  | [], us => by simp [fdepths]
  | t :: ts, us => by simp only [List.cons_append, fdepths]; rw [fdepths_app ts us]; omega

def rwide : List Rf → Nat
  | [] => 0
  | r :: rs => max r.nm.size (rwide rs)
theorem rwide_mem : ∀ {as : List Rf} {r : Rf}, r ∈ as → r.nm.size ≤ rwide as
  | a :: as, r, h => by
    simp only [rwide]
    rcases List.mem_cons.1 h with rfl | h
    · omega
    · have := rwide_mem h; omega
mutual
  /-- Nodes and references. -/
  def Fm.cnt : Fm → Nat
    | .node _ _ a _ _ k => 1 + a.length + cnts k
  def cnts : List Fm → Nat
    | [] => 0
    | t :: ts => t.cnt + cnts ts
  /-- The longest name. -/
  def Fm.wide : Fm → Nat
    | .node _ m a _ _ k => max m.size (max (rwide a) (wides k))
  def wides : List Fm → Nat
    | [] => 0
    | t :: ts => max t.wide (wides ts)
end
theorem Fm.cnt_eq (t : Fm) : t.cnt = 1 + t.as.length + cnts t.ks := by cases t; simp only [Fm.cnt, Fm.as, Fm.ks]
theorem Fm.wide_eq (t : Fm) : t.wide = max t.nm.size (max (rwide t.as) (wides t.ks)) := by cases t; simp only [Fm.wide, Fm.nm, Fm.as, Fm.ks]
theorem cnts_len : ∀ ts : List Fm, ts.length ≤ cnts ts
  | [] => by simp [cnts]
  | t :: ts => by simp only [cnts, List.length_cons]; have := cnts_len ts; have := t.cnt_eq; omega
theorem cnt_mem : ∀ {ts : List Fm} {t : Fm}, t ∈ ts → t.cnt ≤ cnts ts
  | u :: ts, t, h => by
    simp only [cnts]
    rcases List.mem_cons.1 h with rfl | h
    · omega
    · have := cnt_mem h; omega
theorem wide_mem : ∀ {ts : List Fm} {t : Fm}, t ∈ ts → t.wide ≤ wides ts
  | u :: ts, t, h => by
    simp only [wides]
    rcases List.mem_cons.1 h with rfl | h
    · omega
    · have := wide_mem h; omega
theorem rwide_bulk : ∀ as : List Rf, rwide as ≤ rbulks as
  | [] => by simp [rwide]
  | a :: as => by simp only [rwide, rbulks]; have := rwide_bulk as; omega
mutual
  theorem cnt_bulk : ∀ t : Fm, t.cnt ≤ t.bulk
    | .node o m a f t k => by simp only [Fm.cnt, Fm.bulk]; have := cnts_bulks k; have := rbulks_len a; omega
  theorem cnts_bulks : ∀ ts : List Fm, cnts ts ≤ fbulks ts
    | [] => by simp [cnts, fbulks]
    | t :: ts => by simp only [cnts, fbulks]; have := cnt_bulk t; have := cnts_bulks ts; omega
  theorem wide_bulk : ∀ t : Fm, t.wide ≤ t.bulk
    | .node o m a f t k => by simp only [Fm.wide, Fm.bulk]; have := wides_bulks k; have := rwide_bulk a; omega
  theorem wides_bulks : ∀ ts : List Fm, wides ts ≤ fbulks ts
    | [] => by simp [wides, fbulks]
    | t :: ts => by simp only [wides, fbulks]; have := wide_bulk t; have := wides_bulks ts; omega
  theorem size_cnt : ∀ t : Fm, t.size ≤ t.cnt
    | .node o m a f t k => by simp only [Fm.size, Fm.cnt]; have := sizes_cnts k; omega
  theorem sizes_cnts : ∀ ts : List Fm, fsizes ts ≤ cnts ts
    | [] => by simp [fsizes, cnts]
    | t :: ts => by simp only [fsizes, cnts]; have := size_cnt t; have := sizes_cnts ts; omega
  theorem depth_cnt : ∀ t : Fm, t.depth ≤ t.cnt
    | .node o m a f t k => by simp only [Fm.depth, Fm.cnt]; have := depths_cnts k; omega
  theorem depths_cnts : ∀ ts : List Fm, fdepths ts ≤ cnts ts
    | [] => by simp [fdepths, cnts]
    | t :: ts => by simp only [fdepths, cnts]; have := depth_cnt t; have := depths_cnts ts; omega
end
/-- Small enough for all that is reckoned. -/
def Fm.ok (t : Fm) : Prop := t.cnt < 2 ^ 30 ∧ t.wide < 2 ^ 30
theorem Fm.ok_of {t : Fm} (h : t.bulk < 2 ^ 30) : t.ok := by have := cnt_bulk t; have := wide_bulk t; exact ⟨by omega, by omega⟩
theorem Fm.ok.nm {t : Fm} (h : t.ok) : t.nm.size < 2 ^ 30 := by have := h.2; rw [t.wide_eq] at this; omega
theorem Fm.ok.as {t : Fm} (h : t.ok) : t.as.length < 2 ^ 30 := by have := h.1; rw [t.cnt_eq] at this; omega
theorem Fm.ok.rf {t : Fm} {r : Rf} {i : Nat} (h : t.ok) (hr : t.as[i]? = some r) : r.nm.size < 2 ^ 30 := by have := h.2; rw [t.wide_eq] at this; have := rwide_mem (List.mem_of_getElem? hr); omega
theorem Fm.ok.ks {t : Fm} (h : t.ok) : t.ks.length < 2 ^ 30 := by have := h.1; rw [t.cnt_eq] at this; have := cnts_len t.ks; omega
theorem Fm.ok.kid {t u : Fm} {i : Nat} (h : t.ok) (hk : t.ks[i]? = some u) : u.ok := by
  have h1 := h.1
  have h2 := h.2
  rw [t.cnt_eq] at h1
  rw [t.wide_eq] at h2
  have := cnt_mem (List.mem_of_getElem? hk)
  have := wide_mem (List.mem_of_getElem? hk)
  exact ⟨by omega, by omega⟩
theorem Fm.kid_lt {t u : Fm} {i : Nat} (hk : t.ks[i]? = some u) : u.bulk < t.bulk := by
  rw [t.bulk_eq]; have := fbulk_mem (List.mem_of_getElem? hk); omega

/-- A law of formulas by their kids. -/
theorem Fm.rec' {P : Fm → Prop} (h : ∀ t : Fm, (∀ (i : Nat) (u : Fm), t.ks[i]? = some u → P u) → P t) (t : Fm) : P t := by
  have : ∀ n (t : Fm), t.bulk < n → P t := by
    intro n
    induction n with
    | zero => intro t ht; exact absurd ht (Nat.not_lt_zero _)
    | succ n ih => exact fun t ht => h t fun i u hu => ih u (by have := Fm.kid_lt hu; omega)
  exact this _ t (Nat.lt_succ_self _)

/-! Indices that an int holds. -/
def Rf.rng (r : Rf) : Prop := -(2 ^ 63) ≤ r.idx ∧ r.idx < 2 ^ 63
def rrngs (as : List Rf) : Prop := ∀ r ∈ as, r.rng
mutual
  def Fm.rng : Fm → Prop
    | .node _ _ a _ _ k => rrngs a ∧ frngs k
  def frngs : List Fm → Prop
    | [] => True
    | t :: ts => t.rng ∧ frngs ts
end
theorem Fm.rng_eq (t : Fm) : t.rng = (rrngs t.as ∧ frngs t.ks) := by cases t; simp only [Fm.rng, Fm.as, Fm.ks]
theorem rng_mem : ∀ {ts : List Fm} {t : Fm}, frngs ts → t ∈ ts → t.rng
  | u :: ts, t, h, hm => by
    simp only [frngs] at h
    rcases List.mem_cons.1 hm with rfl | hm
    · exact h.1
    · exact rng_mem h.2 hm
theorem frngs_of : ∀ {ts : List Fm}, (∀ t ∈ ts, t.rng) → frngs ts
  | [], _ => trivial
  | t :: ts, h => ⟨h t (by simp), frngs_of fun u hu => h u (by simp [hu])⟩

/-! Arithmetic that does not wrap; lists. -/
theorem wrap_small {n : Int} (h1 : -(2 ^ 62) ≤ n) (h2 : n < 2 ^ 62) : IntKind.i64.wrap n = n := by
  unfold IntKind.wrap
  simp only [IntKind.bits, IntKind.signed, Bool.true_and]
  split
  · rename_i h
    have h := of_decide_eq_true h
    omega
  · rename_i h
    have h := of_decide_eq_false (Bool.not_eq_true _ ▸ h)
    omega
theorem wrap_succ {n : Nat} (h : n < 2 ^ 40) : IntKind.i64.wrap ((n : Int) + 1) = ((n + 1 : Nat) : Int) := by
  rw [wrap_small] <;> omega
theorem drop_cons {α : Type} {l : List α} {i : Nat} {x : α} (h : l[i]? = some x) : l.drop i = x :: l.drop (i + 1) := by
  obtain ⟨hi, rfl⟩ := List.getElem?_eq_some_iff.1 h
  exact List.drop_eq_getElem_cons hi
theorem get_some {α : Type} {l : List α} {i : Nat} (h : i < l.length) : ∃ x, l[i]? = some x := ⟨_, List.getElem?_eq_getElem h⟩
theorem take_succ' {α : Type} {l : List α} {i : Nat} {x : α} (h : l[i]? = some x) : l.take (i + 1) = l.take i ++ [x] := by
  rw [List.take_add_one, h]; rfl
theorem fsizes_take {ts : List Fm} {i : Nat} {t : Fm} (h : ts[i]? = some t) : fsizes (ts.take (i + 1)) = fsizes (ts.take i) + t.size := by
  rw [take_succ' h, fsizes_app]; simp [fsizes]
theorem fsizes_take_le (ts : List Fm) (i : Nat) : fsizes (ts.take i) ≤ fsizes ts := by
  have := fsizes_app (ts.take i) (ts.drop i); rw [List.take_append_drop] at this; omega
theorem fdepths_take {ts : List Fm} {i : Nat} {t : Fm} (h : ts[i]? = some t) : fdepths (ts.take (i + 1)) = max (fdepths (ts.take i)) t.depth := by
  rw [take_succ' h, fdepths_app]; simp [fdepths]
theorem fdepths_take_le (ts : List Fm) (i : Nat) : fdepths (ts.take i) ≤ fdepths ts := by
  have := fdepths_app (ts.take i) (ts.drop i); rw [List.take_append_drop] at this; omega
theorem Fm.ok.sizes {t : Fm} (h : t.ok) : fsizes t.ks < 2 ^ 30 := by have := h.1; rw [t.cnt_eq] at this; have := sizes_cnts t.ks; omega
theorem Fm.ok.depths {t : Fm} (h : t.ok) : fdepths t.ks < 2 ^ 30 := by have := h.1; rw [t.cnt_eq] at this; have := depths_cnts t.ks; omega

/-- The cells of a box that holds one. -/
def fmBox (t : Fm) : Box := ⟨[.d (.int .i64 t.op), .d (.str t.nm), .d (.sl 3 (refs t.as)), .d (.int .i64 t.fr), .d (.int .i64 t.to), .d (.sl 6 (fms t.ks))], false, (0, 0)⟩
def rfBox (r : Rf) : Box := ⟨[.d (.int .i64 r.kind), .d (.int .i64 r.idx), .d (.str r.nm)], false, (0, 0)⟩

/-! Strings. -/
theorem bget (s : ByteArray) (m : Nat) : s[m]? = s.data.toList[m]? := by
  by_cases h : m < s.size
  · rw [getElem?_pos s m h, List.getElem?_eq_getElem (by simpa using h)]
    rfl
  · rw [getElem?_neg s m h, List.getElem?_eq_none (by simpa using Nat.le_of_not_lt h)]
theorem bsize (s : ByteArray) : s.size = s.data.toList.length := Array.length_toList.symm
theorem emp_iff (s : ByteArray) : s = ⟨#[]⟩ ↔ s.data.toList = [] := by
  cases s with
  | mk d => cases d with
    | mk l => simp

/-! What is valid. -/
def lowerB (c : UInt8) : Bool := decide (97 ≤ (c.toNat : Int)) && decide ((c.toNat : Int) ≤ 122)
def tailB (c : UInt8) : Bool := lowerB c || (decide (48 ≤ (c.toNat : Int)) && decide ((c.toNat : Int) ≤ 57)) || decide ((c.toNat : Int) = 45)
def symL : List UInt8 → Bool
  | [] => false
  | c :: cs => lowerB c && cs.all tailB
def headB : List UInt8 → Bool
  | [] => false
  | c :: _ => lowerB c
theorem symL_head (l : List UInt8) : symL l = (headB l && (l.drop 1).all tailB) := by cases l <;> rfl
def symB (s : ByteArray) : Bool := symL s.data.toList
theorem lower_tail {c : UInt8} (h : lowerB c = true) : tailB c = true := by unfold tailB; rw [h]; rfl
def emp (s : ByteArray) : Bool := decide (s = ⟨#[]⟩)
def refOk (r : Rf) (n : Int) : Bool :=
  if r.kind = 1 then emp r.nm && decide (0 ≤ r.idx) && decide (r.idx < n)
  else if r.kind = 2 then decide (r.idx = 0) && symB r.nm
  else if r.kind = 3 then emp r.nm && decide (0 ≤ r.idx) && decide (r.idx ≤ 1439999999)
  else if r.kind = 4 then emp r.nm && decide (0 ≤ r.idx) && decide (r.idx ≤ 1099511627776)
  else false
def momentB (n : Int) : Bool := decide (-1 ≤ n) && decide (n ≤ 1439999999)
def bindsB (op : Int) : Bool := decide (op = 8) || decide (op = 9)
def fieldsOk (t : Fm) (n : Int) : Bool :=
  !(decide (t.op ≠ 10) && (decide (t.fr ≠ 0) || decide (t.to ≠ 0))) && !(decide (t.op ≠ 3) && decide (0 < t.as.length)) && !(decide (t.op ≠ 3) && !bindsB t.op && !emp t.nm) &&
  (if t.op = 1 ∨ t.op = 2 then decide (t.ks.length = 0)
   else if t.op = 3 then t.as.all (refOk · n) && decide (t.ks.length = 0) && decide (1 ≤ t.as.length) && decide (t.as.length ≤ 3) && symB t.nm
   else if t.op = 4 ∨ t.op = 11 ∨ t.op = 12 then decide (t.ks.length = 1)
   else if t.op = 5 ∨ t.op = 6 then true
   else if t.op = 7 then decide (t.ks.length = 2)
   else if t.op = 8 ∨ t.op = 9 then decide (t.ks.length = 1) && symB t.nm
   else if t.op = 10 then decide (t.ks.length = 1) && momentB t.fr && momentB t.to
   else false)
def under (t : Fm) (n : Int) : Int := if bindsB t.op then n + 1 else n
mutual
  def Fm.formed : Fm → Int → Bool
    | .node o m a f t k, n => fieldsOk (.node o m a f t k) n && formeds k (if bindsB o then n + 1 else n)
  def formeds : List Fm → Int → Bool
    | [], _ => true
    | t :: ts, n => t.formed n && formeds ts n
end
theorem Fm.formed_eq (t : Fm) (n : Int) : t.formed n = (fieldsOk t n && formeds t.ks (under t n)) := by
  cases t
  unfold Fm.formed under
  rfl
def clamp (n : Int) : Int := min (max n 0) 1099511627776
def Fm.valid (t : Fm) (n : Int) : Bool := decide (t.size ≤ 200) && decide (t.depth ≤ 32) && t.formed (clamp n)
end Go.Abs
