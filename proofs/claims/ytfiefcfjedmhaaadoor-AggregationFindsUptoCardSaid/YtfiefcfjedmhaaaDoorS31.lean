/- Trees as plain data: how they read, when they are the same, how large they are. No program. -/
import Derived.Test.YtfiefcfjedmhaaaDoorAbsE
namespace Go.Abs
open Go
set_option linter.unusedVariables false
set_option linter.unusedSimpArgs false

inductive Tree where
  | node (fn : ByteArray) (vs : List Int) (ks : List Tree)

def Tree.fn : Tree → ByteArray | .node f _ _ => f
def Tree.vs : Tree → List Int | .node _ v _ => v
def Tree.ks : Tree → List Tree | .node _ _ k => k

theorem Tree.eta (t : Tree) : t = .node t.fn t.vs t.ks := by cases t; rfl

def ints (vs : List Int) : List (List D) := vs.map fun v => [.int .i64 v]

mutual
  def Tree.cells : Tree → List D
    | .node f vs ks => [.str f, .sl 1 (ints vs), .sl 3 (trees ks)]
  def trees : List Tree → List (List D)
    | [] => []
    | t :: ts => t.cells :: trees ts
end

def Tree.d (t : Tree) : D := .agg [.str t.fn, .sl 1 (ints t.vs), .sl 3 (trees t.ks)]

theorem Tree.cells_eq (t : Tree) : t.cells = [.str t.fn, .sl 1 (ints t.vs), .sl 3 (trees t.ks)] := by
  cases t; simp only [Tree.cells, Tree.fn, Tree.vs, Tree.ks]

theorem trees_map : ∀ ts : List Tree, trees ts = ts.map Tree.cells
  | [] => by simp [trees]
  | t :: ts => by simp only [trees, List.map]; rw [trees_map ts]

theorem trees_len (ts : List Tree) : (trees ts).length = ts.length := by rw [trees_map]; simp
theorem ints_len (vs : List Int) : (ints vs).length = vs.length := by simp [ints]
theorem trees_app (ts us : List Tree) : trees (ts ++ us) = trees ts ++ trees us := by simp [trees_map]
theorem ints_app (ts us : List Int) : ints (ts ++ us) = ints ts ++ ints us := by simp [ints]
theorem trees_get {ts : List Tree} {i : Nat} {t : Tree} (h : ts[i]? = some t) : (trees ts)[i]? = some [.str t.fn, .sl 1 (ints t.vs), .sl 3 (trees t.ks)] := by
  rw [trees_map, List.getElem?_map, h, ← t.cells_eq]; rfl
theorem ints_get {vs : List Int} {i : Nat} {v : Int} (h : vs[i]? = some v) : (ints vs)[i]? = some [.int .i64 v] := by
  rw [ints, List.getElem?_map, h]; rfl

mutual
  /-- Nodes and values together. -/
  def Tree.bulk : Tree → Nat
    | .node _ vs ks => 1 + vs.length + bulks ks
  def bulks : List Tree → Nat
    | [] => 0
    | t :: ts => t.bulk + bulks ts
  def Tree.size : Tree → Nat
    | .node _ _ ks => 1 + sizes ks
  def sizes : List Tree → Nat
    | [] => 0
    | t :: ts => t.size + sizes ts
end

theorem Tree.bulk_eq (t : Tree) : t.bulk = 1 + t.vs.length + bulks t.ks := by cases t; simp only [Tree.bulk, Tree.vs, Tree.ks]
theorem Tree.size_eq (t : Tree) : t.size = 1 + sizes t.ks := by cases t; simp only [Tree.size, Tree.ks]

theorem bulk_pos (t : Tree) : 1 ≤ t.bulk := by rw [t.bulk_eq]; omega
theorem size_pos (t : Tree) : 1 ≤ t.size := by rw [t.size_eq]; omega

theorem bulks_len : ∀ ts : List Tree, ts.length ≤ bulks ts
  | [] => by simp [bulks]
  | t :: ts => by simp only [bulks, List.length_cons]; have := bulks_len ts; have := bulk_pos t; omega

mutual
  theorem size_bulk : ∀ t : Tree, t.size ≤ t.bulk
    | .node _ vs ks => by simp only [Tree.size, Tree.bulk]; have := sizes_bulks ks; omega
  theorem sizes_bulks : ∀ ts : List Tree, sizes ts ≤ bulks ts
    | [] => by simp [sizes, bulks]
    | t :: ts => by simp only [sizes, bulks]; have := size_bulk t; have := sizes_bulks ts; omega
end

theorem bulk_mem : ∀ {ts : List Tree} {t : Tree}, t ∈ ts → t.bulk ≤ bulks ts
  | u :: ts, t, h => by
    simp only [bulks]
    rcases List.mem_cons.1 h with rfl | h
    · omega
    · have := bulk_mem h; omega
theorem bulk_get {ts : List Tree} {i : Nat} {t : Tree} (h : ts[i]? = some t) : t.bulk ≤ bulks ts := bulk_mem (List.mem_of_getElem? h)
theorem bulks_app : ∀ (ts us : List Tree), bulks (ts ++ us) = bulks ts + bulks us
  | [], us => by simp [bulks]
  | t :: ts, us => by simp only [List.cons_append, bulks]; rw [bulks_app ts us]; omega
theorem sizes_app : ∀ (ts us : List Tree), sizes (ts ++ us) = sizes ts + sizes us
  | [], us => by simp [sizes]
  | t :: ts, us => by simp only [List.cons_append, sizes]; rw [sizes_app ts us]; omega

/-- Small enough for all that is reckoned. -/
def Tree.ok (t : Tree) : Prop := t.bulk < 2 ^ 30
theorem Tree.ok.vs {t : Tree} (h : t.ok) : t.vs.length < 2 ^ 30 := by unfold Tree.ok at h; rw [t.bulk_eq] at h; omega
theorem Tree.ok.ks {t : Tree} (h : t.ok) : t.ks.length < 2 ^ 30 := by unfold Tree.ok at h; rw [t.bulk_eq] at h; have := bulks_len t.ks; omega
theorem Tree.ok.kid {t u : Tree} {i : Nat} (h : t.ok) (hk : t.ks[i]? = some u) : u.ok := by
  unfold Tree.ok at h ⊢; rw [t.bulk_eq] at h; have := bulk_get hk; omega
theorem Tree.ok.kids {t : Tree} (h : t.ok) : bulks t.ks < 2 ^ 30 := by unfold Tree.ok at h; rw [t.bulk_eq] at h; omega
theorem Tree.kid_lt {t u : Tree} {i : Nat} (hk : t.ks[i]? = some u) : u.bulk < t.bulk := by
  rw [t.bulk_eq]; have := bulk_get hk; omega

/-! Equality. -/
mutual
  def Tree.same : Tree → Tree → Bool
    | .node f vs ks, .node g ws ls => decide (f = g) && decide (vs = ws) && sames ks ls
  def sames : List Tree → List Tree → Bool
    | [], [] => true
    | t :: ts, u :: us => t.same u && sames ts us
    | _, _ => false
end

mutual
  theorem same_iff : ∀ t u : Tree, t.same u = true ↔ t = u
    | .node f vs ks, .node g ws ls => by
      simp only [Tree.same, Bool.and_eq_true, decide_eq_true_eq, Tree.node.injEq]
      rw [sames_iff ks ls, and_assoc]
  theorem sames_iff : ∀ ts us : List Tree, sames ts us = true ↔ ts = us
    | [], [] => by simp [sames]
    | [], _ :: _ => by simp [sames]
    | _ :: _, [] => by simp [sames]
    | t :: ts, u :: us => by
      simp only [sames, Bool.and_eq_true, List.cons.injEq]
      rw [same_iff t u, sames_iff ts us]
end

instance : DecidableEq Tree := fun t u => decidable_of_iff _ (same_iff t u)

theorem Tree.same_eq (t u : Tree) : t.same u = decide (t = u) := by
  by_cases h : t = u
  · rw [(same_iff t u).2 h]; simp [h]
  · have := mt (same_iff t u).1 h; simp [h, Bool.not_eq_true] at this ⊢; exact this

theorem Tree.ext_iff' {t u : Tree} : t = u ↔ t.fn = u.fn ∧ t.vs = u.vs ∧ t.ks = u.ks := by
  cases t; cases u; simp [Tree.fn, Tree.vs, Tree.ks]

/-- A law of trees by their kids. -/
theorem Tree.rec' {P : Tree → Prop} (h : ∀ t : Tree, (∀ (i : Nat) (u : Tree), t.ks[i]? = some u → P u) → P t) (t : Tree) : P t := by
  have : ∀ n (t : Tree), t.bulk < n → P t := by
    intro n
    induction n with
    | zero => intro t ht; exact absurd ht (Nat.not_lt_zero _)
    | succ n ih => exact fun t ht => h t fun i u hu => ih u (by have := Tree.kid_lt hu; omega)
  exact this _ t (Nat.lt_succ_self _)

/-! Arithmetic that does not wrap. -/
theorem wrap_small {n : Int} (h1 : -(2 ^ 62) ≤ n) (h2 : n < 2 ^ 62) : IntKind.i64.wrap n = n := by
  unfold IntKind.wrap
  simp only [IntKind.bits, IntKind.signed, Bool.true_and]
  split
  · rename_i h
    have h := of_decide_eq_true h
    omega
  · rename_i h
    have h := of_decide_eq_false (Bool.not_eq_true _ ▸ h)
    omega
theorem wrap_succ {n : Nat} (h : n < 2 ^ 40) : IntKind.i64.wrap ((n : Int) + 1) = ((n + 1 : Nat) : Int) := by
  rw [wrap_small] <;> omega

theorem drop_cons {α : Type} {l : List α} {i : Nat} {x : α} (h : l[i]? = some x) : l.drop i = x :: l.drop (i + 1) := by
  obtain ⟨hi, rfl⟩ := List.getElem?_eq_some_iff.1 h
  exact List.drop_eq_getElem_cons hi
theorem get_some {α : Type} {l : List α} {i : Nat} (h : i < l.length) : ∃ x, l[i]? = some x := ⟨_, List.getElem?_eq_getElem h⟩
theorem take_succ' {α : Type} {l : List α} {i : Nat} {x : α} (h : l[i]? = some x) : l.take (i + 1) = l.take i ++ [x] := by
  rw [List.take_add_one, h]; rfl

/-- The cells of a box that holds a tree. -/
def treeBox (t : Tree) : Box := ⟨[.d (.str t.fn), .d (.sl 1 (ints t.vs)), .d (.sl 3 (trees t.ks))], false⟩

theorem sizes_take {ts : List Tree} {i : Nat} {t : Tree} (h : ts[i]? = some t) : sizes (ts.take (i + 1)) = sizes (ts.take i) + t.size := by
  rw [take_succ' h, sizes_app]; simp [sizes]
theorem sizes_take_le (ts : List Tree) (i : Nat) : sizes (ts.take i) ≤ sizes ts := by
  have := sizes_app (ts.take i) (ts.drop i); rw [List.take_append_drop] at this; omega
theorem ok_sizes {t : Tree} (h : t.ok) : sizes t.ks < 2 ^ 30 := by have := h.kids; have := sizes_bulks t.ks; omega
theorem bulks_take {ts : List Tree} {i : Nat} {t : Tree} (h : ts[i]? = some t) : bulks (ts.take (i + 1)) = bulks (ts.take i) + t.bulk := by
  rw [take_succ' h, bulks_app]; simp [bulks]
theorem bulks_take_le (ts : List Tree) (i : Nat) : bulks (ts.take i) ≤ bulks ts := by
  have := bulks_app (ts.take i) (ts.drop i); rw [List.take_append_drop] at this; omega
theorem trees_snoc {ts : List Tree} {i : Nat} {t : Tree} (h : ts[i]? = some t) : trees (ts.take (i + 1)) = trees (ts.take i) ++ [[.str t.fn, .sl 1 (ints t.vs), .sl 3 (trees t.ks)]] := by
  rw [take_succ' h, trees_app]; simp only [trees, t.cells_eq]
theorem d_node (f : ByteArray) (vs : List Int) (ks : List Tree) : (Tree.node f vs ks).d = .agg [.str f, .sl 1 (ints vs), .sl 3 (trees ks)] := rfl
theorem trees_drop (ts : List Tree) (n : Nat) : trees (ts.drop n) = (trees ts).drop n := by rw [trees_map, trees_map, List.map_drop]
theorem trees_take (ts : List Tree) (n : Nat) : trees (ts.take n) = (trees ts).take n := by rw [trees_map, trees_map, List.map_take]
theorem trees_cons (t : Tree) (ts : List Tree) : trees (t :: ts) = [.str t.fn, .sl 1 (ints t.vs), .sl 3 (trees t.ks)] :: trees ts := by simp only [trees, t.cells_eq]
theorem take_all {α : Type} (l : List α) : l.take (Int.toNat (l.length : Int)) = l := by simp
end Go.Abs
