/- Aggregation in plain terms: frames, wrappers, merges, parts. No program. -/
import Derived.Test.YtfiefcfjedmhaaaDoorS39
namespace Go.Abs
open Go
set_option linter.unusedVariables false
set_option linter.unusedSimpArgs false
set_option linter.unusedSectionVars false
theorem node_fn (f : ByteArray) (vs : List Int) (ks : List Tree) : (Tree.node f vs ks).fn = f := rfl
theorem node_vs (f : ByteArray) (vs : List Int) (ks : List Tree) : (Tree.node f vs ks).vs = vs := rfl
theorem node_ks (f : ByteArray) (vs : List Int) (ks : List Tree) : (Tree.node f vs ks).ks = ks := rfl

def sBoth : ByteArray := ByteArray.mk #[66, 111, 116, 104]
def sAndVP : ByteArray := ByteArray.mk #[65, 110, 100, 86, 80]
def sName : ByteArray := ByteArray.mk #[78, 97, 109, 101]
def wrap4 (f : ByteArray) : Bool := decide (f = sDuring) || decide (f = sSince) || decide (f = sUntil) || decide (f = sPlease)

theorem frame_wrap4 {f : ByteArray} (h : frame4 f = true) : wrap4 f = false := by
  simp only [frame4, Bool.or_eq_true, decide_eq_true_eq] at h
  rcases h with ((rfl | rfl) | rfl) | rfl <;> decide

def frameT (t : Tree) : Option (Tree × Tree) := if frame4 t.fn then match t.ks with
    | [a, b] => some (a, b)
    | _ => none
  else none
def wrapT (t : Tree) : Option Tree := if wrap4 t.fn then match t.ks with
    | [k] => some k
    | _ => none
  else none

theorem frameT_some {t a b : Tree} (h : frameT t = some (a, b)) : frame4 t.fn = true ∧ t.ks = [a, b] := by
  unfold frameT at h
  split at h
  · rename_i hf
    split at h
    · rename_i hk; cases h; exact ⟨hf, hk⟩
    · cases h
  · cases h
theorem wrapT_some {t a : Tree} (h : wrapT t = some a) : wrap4 t.fn = true ∧ t.ks = [a] := by
  unfold wrapT at h
  split at h
  · rename_i hf
    split at h
    · rename_i hk; cases h; exact ⟨hf, hk⟩
    · cases h
  · cases h
theorem frameT_of {t a b : Tree} (h1 : frame4 t.fn = true) (h2 : t.ks = [a, b]) : frameT t = some (a, b) := by
  unfold frameT; rw [if_pos h1, h2]
theorem wrapT_of {t a : Tree} (h1 : wrap4 t.fn = true) (h2 : t.ks = [a]) : wrapT t = some a := by
  unfold wrapT; rw [if_pos h1, h2]
theorem frameT_none {t : Tree} (h : frame4 t.fn = false ∨ t.ks.length ≠ 2) : frameT t = none := by
  unfold frameT
  rcases h with h | h
  · rw [h]; rfl
  · split
    · split
      · rename_i hk; rw [hk] at h; exact absurd rfl h
      · rfl
    · rfl
theorem wrapT_none {t : Tree} (h : wrap4 t.fn = false ∨ t.ks.length ≠ 1) : wrapT t = none := by
  unfold wrapT
  rcases h with h | h
  · rw [h]; rfl
  · split
    · split
      · rename_i hk; rw [hk] at h; exact absurd rfl h
      · rfl
    · rfl
theorem two_of {ks : List Tree} (h : ks.length = 2) : ∃ a b, ks = [a, b] := by
  match ks, h with
  | [a, b], _ => exact ⟨a, b, rfl⟩
theorem one_of {ks : List Tree} (h : ks.length = 1) : ∃ a, ks = [a] := by
  match ks, h with
  | [a], _ => exact ⟨a, rfl⟩

/-! Trees can be told apart. -/
mutual
  theorem Tree.firms : ∀ t : Tree, D.firms t.cells = true
    | .node f vs ks => by simp only [Tree.cells, D.firms, D.firm, ints_firm, trees_firm ks, Bool.and_self]
  theorem trees_firm : ∀ ts : List Tree, D.firmss (trees ts) = true
    | [] => by simp [trees, D.firmss]
    | t :: ts => by simp only [trees, D.firmss, Tree.firms t, trees_firm ts, Bool.and_self]
  theorem ints_firm : ∀ vs : List Int, D.firmss (ints vs) = true
    | [] => rfl
    | v :: vs => by
      have := ints_firm vs
      simp only [ints, List.map_cons, D.firmss, D.firms, D.firm, Bool.and_self, Bool.true_and] at this ⊢
      exact this
end
theorem Tree.firm (t : Tree) : D.firm t.d = true := by
  have := t.firms
  rw [t.cells_eq] at this
  exact this

/-- What two frames come to. -/
def joinF (f : ByteArray) (s p x y : Tree) : List Tree :=
  (if p = y then [.node f [] [.node sBoth [] [s, x], p]] else []) ++ (if s = x then [.node f [] [s, .node sAndVP [] [p, y]]] else [])

def mergeT : Tree → Tree → List Tree
  | .node f vs [k], u => match u.ks with
    | [l] => if f = u.fn ∧ wrap4 f = true ∧ vs = u.vs then (mergeT k l).map fun m => .node f vs [m] else []
    | _ => []
  | .node f vs [a, b], u => match u.ks with
    | [c, d] => if f = u.fn ∧ frame4 f = true then joinF f a b c d else []
    | _ => []
  | _, _ => []

theorem merge_ne {t u : Tree} (h : t.fn ≠ u.fn) : mergeT t u = [] := by
  obtain ⟨f, vs, ks⟩ := t
  match ks with
  | [] => rfl
  | [k] =>
    simp only [mergeT]
    split
    · rw [if_neg (fun hh => h hh.1)]
    · rfl
  | [a, b] =>
    simp only [mergeT]
    split
    · rw [if_neg (fun hh => h hh.1)]
    · rfl
  | _ :: _ :: _ :: _ => rfl
theorem merge_frame {t u s p x y : Tree} (h : t.fn = u.fn) (ht : frameT t = some (s, p)) (hu : frameT u = some (x, y)) : mergeT t u = joinF t.fn s p x y := by
  obtain ⟨h1, h2⟩ := frameT_some ht
  obtain ⟨_, h4⟩ := frameT_some hu
  obtain ⟨f, vs, ks⟩ := t
  simp only [node_ks, node_fn] at h2 h h1 ⊢
  subst h2
  simp only [mergeT, h4]
  rw [if_pos ⟨h, h1⟩]
theorem merge_wrap {t u k l : Tree} (h : t.fn = u.fn) (ht : wrapT t = some k) (hu : wrapT u = some l) : mergeT t u = if t.vs = u.vs then (mergeT k l).map fun m => .node t.fn t.vs [m] else [] := by
  obtain ⟨h1, h2⟩ := wrapT_some ht
  obtain ⟨_, h4⟩ := wrapT_some hu
  obtain ⟨f, vs, ks⟩ := t
  simp only [node_ks, node_fn, node_vs] at h2 h h1 ⊢
  subst h2
  simp only [mergeT, h4]
  by_cases hv : vs = u.vs
  · rw [if_pos ⟨h, h1, hv⟩]; exact (if_pos hv).symm
  · rw [if_neg (fun hh => hv hh.2.2)]; exact (if_neg hv).symm
theorem merge_none {t u : Tree} (hf : frameT t = none ∨ frameT u = none) (hw : wrapT t = none ∨ wrapT u = none) : mergeT t u = [] := by
  by_cases hne : t.fn = u.fn
  case neg => exact merge_ne hne
  obtain ⟨f, vs, ks⟩ := t
  simp only [node_fn] at hne
  match ks with
  | [] => rfl
  | [k] =>
    simp only [mergeT]
    split
    · rename_i l hl
      rw [if_neg]
      rintro ⟨h1, h2, _⟩
      rcases hw with hw | hw
      · rw [wrapT_of (t := .node f vs [k]) (a := k) h2 rfl] at hw; cases hw
      · rw [wrapT_of (t := u) (a := l) (by rw [← hne]; exact h2) hl] at hw; cases hw
    · rfl
  | [a, b] =>
    simp only [mergeT]
    split
    · rename_i c d hl
      rw [if_neg]
      rintro ⟨h1, h2⟩
      rcases hf with hf | hf
      · rw [frameT_of (t := .node f vs [a, b]) (a := a) (b := b) h2 rfl] at hf; cases hf
      · rw [frameT_of (t := u) (a := c) (b := d) (by rw [← hne]; exact h2) hl] at hf; cases hf
    · rfl
  | _ :: _ :: _ :: _ => rfl

theorem joinF_len (f : ByteArray) (s p x y : Tree) : (joinF f s p x y).length ≤ 2 := by
  unfold joinF
  split <;> split <;> simp
theorem merge_len : ∀ t u : Tree, (mergeT t u).length ≤ 2
  | .node f vs [], u => by simp [mergeT]
  | .node f vs [k], u => by
    simp only [mergeT]
    split
    · split
      · rw [List.length_map]; exact merge_len k _
      · simp
    · simp
  | .node f vs [a, b], u => by
    simp only [mergeT]
    split
    · split
      · exact joinF_len _ _ _ _ _
      · simp
    · simp
  | .node f vs (_ :: _ :: _ :: _), u => by simp [mergeT]

theorem merge_bulk : ∀ (t u m : Tree), m ∈ mergeT t u → m.bulk ≤ t.bulk + u.bulk
  | .node f vs [], u, m, h => by simp [mergeT] at h
  | .node f vs [k], u, m, h => by
    simp only [mergeT] at h
    split at h
    · rename_i l hl
      split at h
      · obtain ⟨n, hn, rfl⟩ := List.mem_map.1 h
        have := merge_bulk k l n hn
        rw [u.bulk_eq, hl]
        simp only [Tree.bulk, bulks] at this ⊢
        omega
      · cases h
    · cases h
  | .node f vs [a, b], u, m, h => by
    simp only [mergeT] at h
    split at h
    · rename_i c d hl
      split at h
      · rw [u.bulk_eq, hl]
        simp only [joinF, List.mem_append] at h
        rcases h with h | h
        · split at h
          · simp only [List.mem_singleton] at h; subst h
            simp only [Tree.bulk, bulks, List.length_nil]; omega
          · cases h
        · split at h
          · simp only [List.mem_singleton] at h; subst h
            simp only [Tree.bulk, bulks, List.length_nil]; omega
          · cases h
      · cases h
    · cases h
  | .node f vs (_ :: _ :: _ :: _), u, m, h => by simp [mergeT] at h

/-! Lists in which two neighbours are one. -/
def partM (ts : List Tree) (i : Nat) (t : Tree) : Nat → List Tree
  | 0 => []
  | k + 1 => partM ts i t k ++ (if k = i then [t] else if k = i + 1 then [] else match ts[k]? with
    | some x => [x]
    | none => [])
theorem partM_len (ts : List Tree) (i : Nat) (t : Tree) : ∀ k, (partM ts i t k).length ≤ k
  | 0 => Nat.le_refl _
  | k + 1 => by
    simp only [partM, List.length_append]
    have := partM_len ts i t k
    split
    · simp only [List.length_singleton]; omega
    · split
      · simp only [List.length_nil]; omega
      · split <;> simp only [List.length_singleton, List.length_nil] <;> omega
theorem partM_le (ts : List Tree) (i : Nat) (t : Tree) : ∀ k, k ≤ i → k ≤ ts.length → partM ts i t k = ts.take k
  | 0, _, _ => rfl
  | k + 1, h, hl => by
    simp only [partM]
    rw [partM_le ts i t k (by omega) (by omega), if_neg (by omega), if_neg (by omega)]
    obtain ⟨x, hx⟩ := get_some (l := ts) (i := k) (by omega)
    rw [hx, take_succ' hx]
theorem partM_ge (ts : List Tree) (i : Nat) (t : Tree) (hi : i + 1 < ts.length) : ∀ n, i + 2 + n ≤ ts.length → partM ts i t (i + 2 + n) = ts.take i ++ [t] ++ (ts.drop (i + 2)).take n
  | 0, _ => by
    show partM ts i t (i + 1) ++ _ = _
    simp only [partM]
    rw [partM_le ts i t i (Nat.le_refl _) (by omega)]
    simp
  | n + 1, h => by
    rw [show i + 2 + (n + 1) = (i + 2 + n) + 1 by omega]
    simp only [partM]
    rw [partM_ge ts i t hi n (by omega), if_neg (by omega), if_neg (by omega)]
    obtain ⟨x, hx⟩ := get_some (l := ts) (i := i + 2 + n) (by omega)
    have hx' : (ts.drop (i + 2))[n]? = some x := by rw [List.getElem?_drop]; exact hx
    rw [hx, take_succ' hx']
    simp
theorem partM_eq {ts : List Tree} {i : Nat} {t : Tree} (hi : i + 1 < ts.length) : partM ts i t ts.length = ts.take i ++ [t] ++ ts.drop (i + 2) := by
  have := partM_ge ts i t hi (ts.length - (i + 2)) (by omega)
  rw [show i + 2 + (ts.length - (i + 2)) = ts.length by omega] at this
  rw [this, List.take_of_length_le (l := ts.drop (i + 2)) (by rw [List.length_drop]; exact Nat.le_refl _)]

/-- The lists that the i-th pair comes to. -/
def moveAt (ts : List Tree) (i : Nat) : List (List Tree) := match ts[i]?, ts[i + 1]? with
  | some a, some b => (mergeT a b).map fun m => ts.take i ++ [m] ++ ts.drop (i + 2)
  | _, _ => []
def movesT (ts : List Tree) : Nat → List (List Tree)
  | 0 => []
  | k + 1 => movesT ts k ++ moveAt ts k
theorem moveAt_len (ts : List Tree) (i : Nat) : (moveAt ts i).length ≤ 2 := by
  unfold moveAt
  split
  · rw [List.length_map]; exact merge_len _ _
  · simp
theorem movesT_len (ts : List Tree) : ∀ k, (movesT ts k).length ≤ 2 * k
  | 0 => Nat.le_refl _
  | k + 1 => by
    simp only [movesT, List.length_append]
    have := movesT_len ts k
    have := moveAt_len ts k
    omega
def lists (ls : List (List Tree)) : List (List D) := ls.map fun l => [.sl 3 (trees l)]
theorem lists_len (ls : List (List Tree)) : (lists ls).length = ls.length := by simp [lists]
theorem lists_app (ls ms : List (List Tree)) : lists (ls ++ ms) = lists ls ++ lists ms := by simp [lists]
theorem lists_get {ls : List (List Tree)} {i : Nat} {l : List Tree} (h : ls[i]? = some l) : (lists ls)[i]? = some [.sl 3 (trees l)] := by
  rw [lists, List.getElem?_map, h]; rfl
theorem moveAt_bulk {ts l : List Tree} {i : Nat} (h : l ∈ moveAt ts i) : bulks l ≤ bulks ts ∧ l.length + 1 = ts.length := by
  unfold moveAt at h
  split at h
  · rename_i a b ha hb
    obtain ⟨m, hm, rfl⟩ := List.mem_map.1 h
    have h1 := merge_bulk a b m hm
    have hl := (List.getElem?_eq_some_iff.1 hb).1
    have h2 : ts = ts.take i ++ (a :: b :: ts.drop (i + 2)) := by
      conv => lhs; rw [← List.take_append_drop i ts, drop_cons ha, drop_cons hb]
    have h3 : bulks ts = bulks (ts.take i) + (a.bulk + (b.bulk + bulks (ts.drop (i + 2)))) := by
      conv => lhs; rw [h2]
      rw [bulks_app]; simp only [bulks]
    refine ⟨?_, ?_⟩
    · rw [bulks_app, bulks_app, h3]; simp only [bulks]; omega
    · simp; omega
  · cases h
theorem movesT_mem {ts l : List Tree} : ∀ {n : Nat}, l ∈ movesT ts n → ∃ i, i < n ∧ l ∈ moveAt ts i
  | n + 1, h => by
    simp only [movesT, List.mem_append] at h
    rcases h with h | h
    · obtain ⟨i, h1, h2⟩ := movesT_mem h
      exact ⟨i, by omega, h2⟩
    · exact ⟨n, Nat.lt_succ_self _, h⟩

def againT (t a b : Tree) : Tree := .node t.fn t.vs [a, b]
def plainF (f : ByteArray) : Bool := decide (f = sAssert) || decide (f = sMust)

/-- The two sentences into which one falls. -/
def twoT (t : Tree) : Option (Tree × Tree) := match frameT t with
  | none => none
  | some (s, p) => if s.fn = sBoth ∧ s.ks.length = 2 then (match s.ks with
      | [a, b] => some (againT t a p, againT t b p)
      | _ => none)
    else if plainF t.fn = true ∧ s.fn = sName ∧ p.fn = sAndVP ∧ p.ks.length = 2 then (match p.ks with
      | [c, d] => some (againT t s c, againT t s d)
      | _ => none)
    else none
def wrapN (t m : Tree) : Tree := .node t.fn t.vs [m]

def splitF : Nat → Tree → List Tree
  | 0, t => [t]
  | n + 1, t => match twoT t with
    | some (a, b) => splitF n a ++ splitF n b
    | none => match wrapT t with
      | some k => (splitF n k).map (wrapN t)
      | none => [t]

theorem splitF_two {n : Nat} {t a b : Tree} (h : twoT t = some (a, b)) : splitF (n + 1) t = splitF n a ++ splitF n b := by simp only [splitF, h]
theorem splitF_wrap {n : Nat} {t k : Tree} (h : twoT t = none) (hw : wrapT t = some k) : splitF (n + 1) t = (splitF n k).map (wrapN t) := by simp only [splitF, h, hw]
theorem splitF_one {n : Nat} {t : Tree} (h : twoT t = none) (hw : wrapT t = none) : splitF (n + 1) t = [t] := by simp only [splitF, h, hw]
theorem size_node (f : ByteArray) (vs : List Int) (ks : List Tree) : (Tree.node f vs ks).size = 1 + sizes ks := by simp [Tree.size]
theorem bulk_node (f : ByteArray) (vs : List Int) (ks : List Tree) : (Tree.node f vs ks).bulk = (Tree.node f vs []).bulk + bulks ks := by simp only [Tree.bulk, bulks]; omega
theorem bulk_parts (t : Tree) : t.bulk = (Tree.node t.fn t.vs []).bulk + bulks t.ks := by obtain ⟨f, vs, ks⟩ := t; exact bulk_node f vs ks

/-- How a sentence falls in two. -/
theorem twoT_some {t a b : Tree} (h : twoT t = some (a, b)) : ∃ s p, frameT t = some (s, p) ∧
    ((s.fn = sBoth ∧ ∃ x y, s.ks = [x, y] ∧ a = againT t x p ∧ b = againT t y p) ∨
     (¬ (s.fn = sBoth ∧ s.ks.length = 2) ∧ plainF t.fn = true ∧ s.fn = sName ∧ p.fn = sAndVP ∧ ∃ x y, p.ks = [x, y] ∧ a = againT t s x ∧ b = againT t s y)) := by
  unfold twoT at h
  cases hf : frameT t with
  | none => rw [hf] at h; cases h
  | some q =>
    obtain ⟨s, p⟩ := q
    rw [hf] at h
    dsimp only at h
    refine ⟨s, p, rfl, ?_⟩
    by_cases h1 : s.fn = sBoth ∧ s.ks.length = 2
    · rw [if_pos h1] at h
      obtain ⟨x, y, hxy⟩ := two_of h1.2
      rw [hxy] at h
      cases h
      exact .inl ⟨h1.1, x, y, hxy, rfl, rfl⟩
    · rw [if_neg h1] at h
      by_cases h2 : plainF t.fn = true ∧ s.fn = sName ∧ p.fn = sAndVP ∧ p.ks.length = 2
      · rw [if_pos h2] at h
        obtain ⟨x, y, hxy⟩ := two_of h2.2.2.2
        rw [hxy] at h
        cases h
        exact .inr ⟨h1, h2.1, h2.2.1, h2.2.2.1, x, y, hxy, rfl, rfl⟩
      · rw [if_neg h2] at h; cases h
theorem twoT_both {t s p x y : Tree} (hf : frameT t = some (s, p)) (h1 : s.fn = sBoth) (h2 : s.ks = [x, y]) : twoT t = some (againT t x p, againT t y p) := by
  unfold twoT
  rw [hf]
  dsimp only
  rw [if_pos ⟨h1, by rw [h2]; rfl⟩, h2]
theorem twoT_and {t s p x y : Tree} (hf : frameT t = some (s, p)) (h0 : ¬ (s.fn = sBoth ∧ s.ks.length = 2)) (h1 : plainF t.fn = true) (h2 : s.fn = sName) (h3 : p.fn = sAndVP) (h4 : p.ks = [x, y]) : twoT t = some (againT t s x, againT t s y) := by
  unfold twoT
  rw [hf]
  dsimp only
  rw [if_neg h0, if_pos ⟨h1, h2, h3, by rw [h4]; rfl⟩, h4]
theorem twoT_none {t : Tree} (h : ∀ s p, frameT t = some (s, p) → ¬ (s.fn = sBoth ∧ s.ks.length = 2) ∧ ¬ (plainF t.fn = true ∧ s.fn = sName ∧ p.fn = sAndVP ∧ p.ks.length = 2)) : twoT t = none := by
  unfold twoT
  cases hf : frameT t with
  | none => rfl
  | some q =>
    obtain ⟨s, p⟩ := q
    dsimp only
    obtain ⟨h1, h2⟩ := h s p hf
    rw [if_neg h1, if_neg h2]

theorem sizes_two (a b : Tree) : sizes [a, b] = a.size + b.size := by simp [sizes]
theorem bulks_two (a b : Tree) : bulks [a, b] = a.bulk + b.bulk := by simp [bulks]
theorem sizes_one (a : Tree) : sizes [a] = a.size := by simp [sizes]
theorem bulks_one (a : Tree) : bulks [a] = a.bulk := by simp [bulks]
theorem size_two {t a b : Tree} (h : t.ks = [a, b]) : t.size = 1 + (a.size + b.size) := by
  obtain ⟨f, vs, ks⟩ := t; simp only [node_ks] at h; subst h; rw [size_node, sizes_two]
theorem size_one {t a : Tree} (h : t.ks = [a]) : t.size = 1 + a.size := by
  obtain ⟨f, vs, ks⟩ := t; simp only [node_ks] at h; subst h; rw [size_node, sizes_one]
theorem bulk_two {t a b : Tree} (h : t.ks = [a, b]) : t.bulk = (Tree.node t.fn t.vs []).bulk + (a.bulk + b.bulk) := by rw [bulk_parts, h, bulks_two]
theorem bulk_one {t a : Tree} (h : t.ks = [a]) : t.bulk = (Tree.node t.fn t.vs []).bulk + a.bulk := by rw [bulk_parts, h, bulks_one]
theorem again_size (t a b : Tree) : (againT t a b).size = 1 + (a.size + b.size) := by unfold againT; rw [size_node, sizes_two]
theorem again_bulk (t a b : Tree) : (againT t a b).bulk = (Tree.node t.fn t.vs []).bulk + (a.bulk + b.bulk) := by unfold againT; rw [bulk_node, bulks_two]
theorem again_frame {t a b : Tree} (h : frame4 t.fn = true) : frameT (againT t a b) = some (a, b) := frameT_of h rfl

/-- Each of the two is less. -/
theorem two_less {t a b : Tree} (h : twoT t = some (a, b)) : a.size + 1 ≤ t.size ∧ b.size + 1 ≤ t.size ∧ a.bulk ≤ t.bulk ∧ b.bulk ≤ t.bulk := by
  obtain ⟨s, p, hf, hh⟩ := twoT_some h
  obtain ⟨h1, h2⟩ := frameT_some hf
  have e1 := size_two h2
  have e2 := bulk_two h2
  rcases hh with ⟨_, x, y, hk, rfl, rfl⟩ | ⟨_, _, _, _, x, y, hk, rfl, rfl⟩
  all_goals
    have e3 := size_two hk
    have e4 := bulk_two hk
    rw [again_size, again_size, again_bulk, again_bulk]
    omega

theorem split_len : ∀ (n : Nat) (t : Tree), t.size ≤ n → (splitF n t).length ≤ t.size * t.size ∧ (∀ s p, frameT t = some (s, p) → (splitF n t).length ≤ s.size * p.size) ∧ 1 ≤ (splitF n t).length
  | 0, t, h => by have := size_pos t; omega
  | n + 1, t, h => by
    have sp := size_pos t
    simp only [splitF]
    cases h2 : twoT t with
    | some q =>
      obtain ⟨a, b⟩ := q
      obtain ⟨s, p, hf, hh⟩ := twoT_some h2
      obtain ⟨f1, f2⟩ := frameT_some hf
      obtain ⟨l1, l2, _, _⟩ := two_less h2
      obtain ⟨_, a2, a3⟩ := split_len n a (by omega)
      obtain ⟨_, b2, b3⟩ := split_len n b (by omega)
      dsimp only
      rw [List.length_append]
      have es := size_two f2
      have key : (splitF n a).length + (splitF n b).length ≤ s.size * p.size := by
        rcases hh with ⟨_, x, y, hk, rfl, rfl⟩ | ⟨_, _, _, _, x, y, hk, rfl, rfl⟩
        · have e := size_two hk
          have q1 := a2 _ _ (again_frame f1)
          have q2 := b2 _ _ (again_frame f1)
          rw [e, Nat.add_mul, Nat.add_mul]
          omega
        · have e := size_two hk
          have q1 := a2 _ _ (again_frame f1)
          have q2 := b2 _ _ (again_frame f1)
          rw [e, Nat.mul_add, Nat.mul_add]
          omega
      refine ⟨?_, ?_, by omega⟩
      · have : s.size * p.size ≤ t.size * t.size := Nat.mul_le_mul (by omega) (by omega)
        omega
      · intro s' p' h'
        rw [hf] at h'
        cases h'
        exact key
    | none =>
      dsimp only
      cases hw : wrapT t with
      | some k =>
        obtain ⟨w1, w2⟩ := wrapT_some hw
        have es := size_one w2
        obtain ⟨k1, k2, k3⟩ := split_len n k (by omega)
        dsimp only
        rw [List.length_map]
        refine ⟨?_, ?_, k3⟩
        · have : k.size * k.size ≤ t.size * t.size := Nat.mul_le_mul (by omega) (by omega)
          omega
        · intro s p hf
          obtain ⟨f1, f2⟩ := frameT_some hf
          rw [w2] at f2; simp at f2
      | none =>
        dsimp only
        have h1 : 1 ≤ t.size * t.size := Nat.mul_pos sp sp
        refine ⟨h1, ?_, Nat.le_refl _⟩
        intro s p _
        have := size_pos s
        have := size_pos p
        exact Nat.mul_pos (by omega) (by omega)

theorem split_bulk : ∀ (n : Nat) (t : Tree), t.size ≤ n → ∀ m ∈ splitF n t, m.bulk ≤ t.bulk
  | 0, t, h => by have := size_pos t; omega
  | n + 1, t, h => by
    intro m hm
    simp only [splitF] at hm
    cases h2 : twoT t with
    | some q =>
      obtain ⟨a, b⟩ := q
      rw [h2] at hm
      obtain ⟨l1, l2, l3, l4⟩ := two_less h2
      rcases List.mem_append.1 hm with hm | hm
      · have := split_bulk n a (by omega) m hm; omega
      · have := split_bulk n b (by omega) m hm; omega
    | none =>
      rw [h2] at hm
      dsimp only at hm
      cases hw : wrapT t with
      | some k =>
        rw [hw] at hm
        obtain ⟨w1, w2⟩ := wrapT_some hw
        obtain ⟨x, hx, rfl⟩ := List.mem_map.1 hm
        have := split_bulk n k (by have := size_one w2; omega) x hx
        have e := bulk_one w2
        unfold wrapN
        rw [bulk_node, bulks_one]; omega
      | none =>
        rw [hw] at hm
        simp only [List.mem_singleton] at hm
        subst hm
        exact Nat.le_refl _

/-- More fuel than the size changes nothing. -/
theorem split_fuel : ∀ (n m : Nat) (t : Tree), t.size ≤ n → t.size ≤ m → splitF n t = splitF m t
  | 0, _, t, h, _ => by have := size_pos t; omega
  | _ + 1, 0, t, _, h => by have := size_pos t; omega
  | n + 1, m + 1, t, h, h' => by
    simp only [splitF]
    cases h2 : twoT t with
    | some q =>
      obtain ⟨a, b⟩ := q
      obtain ⟨l1, l2, _, _⟩ := two_less h2
      dsimp only
      rw [split_fuel n m a (by omega) (by omega), split_fuel n m b (by omega) (by omega)]
    | none =>
      dsimp only
      cases hw : wrapT t with
      | some k =>
        obtain ⟨w1, w2⟩ := wrapT_some hw
        have := size_one w2
        dsimp only
        rw [split_fuel n m k (by omega) (by omega)]
      | none => rfl

def splitT (t : Tree) : List Tree := splitF t.size t
theorem splitT_of {n : Nat} {t : Tree} (h : t.size ≤ n) : splitF n t = splitT t := split_fuel n t.size t h (Nat.le_refl _)

theorem split_size : ∀ (n : Nat) (t : Tree), t.size ≤ n → ∀ m ∈ splitF n t, m.size ≤ t.size
  | 0, t, h => by have := size_pos t; omega
  | n + 1, t, h => by
    intro m hm
    cases h2 : twoT t with
    | some q =>
      obtain ⟨a, b⟩ := q
      rw [splitF_two h2] at hm
      obtain ⟨l1, l2, l3, l4⟩ := two_less h2
      rcases List.mem_append.1 hm with hm | hm
      · have := split_size n a (by omega) m hm; omega
      · have := split_size n b (by omega) m hm; omega
    | none =>
      cases hw : wrapT t with
      | some k =>
        rw [splitF_wrap h2 hw] at hm
        obtain ⟨w1, w2⟩ := wrapT_some hw
        obtain ⟨x, hx, rfl⟩ := List.mem_map.1 hm
        have e := size_one w2
        have := split_size n k (by omega) x hx
        unfold wrapN
        rw [size_node, sizes_one]; omega
      | none =>
        rw [splitF_one h2 hw, List.mem_singleton] at hm
        subst hm
        exact Nat.le_refl _

theorem splitT_one {t : Tree} (h : twoT t = none) (hw : wrapT t = none) : splitT t = [t] := by
  rw [← splitT_of (Nat.le_succ t.size)]; exact splitF_one h hw
theorem splitT_wrap {t k : Tree} (h : twoT t = none) (hw : wrapT t = some k) : splitT t = (splitT k).map (wrapN t) := by
  obtain ⟨w1, w2⟩ := wrapT_some hw
  have := size_one w2
  rw [← splitT_of (Nat.le_succ t.size), splitF_wrap h hw, splitT_of (by omega)]
theorem splitT_two {t a b : Tree} (h : twoT t = some (a, b)) : splitT t = splitT a ++ splitT b := by
  obtain ⟨l1, l2, _, _⟩ := two_less h
  rw [← splitT_of (Nat.le_succ t.size), splitF_two h, splitT_of (by omega), splitT_of (by omega)]
theorem wrapN_two (t m : Tree) : twoT (wrapN t m) = none := twoT_none (by
  intro s p e
  obtain ⟨_, h⟩ := frameT_some e
  simp [wrapN, Tree.ks] at h)
theorem wrapN_wrap {t m : Tree} (h : wrap4 t.fn = true) : wrapT (wrapN t m) = some m := wrapT_of h rfl

/-- No part falls apart. -/
theorem split_split : ∀ (n : Nat) (t : Tree), t.size ≤ n → ∀ m ∈ splitF n t, splitT m = [m]
  | 0, t, h => by have := size_pos t; omega
  | n + 1, t, h => by
    intro m hm
    cases h2 : twoT t with
    | some q =>
      obtain ⟨a, b⟩ := q
      rw [splitF_two h2] at hm
      obtain ⟨l1, l2, l3, l4⟩ := two_less h2
      rcases List.mem_append.1 hm with hm | hm
      · exact split_split n a (by omega) m hm
      · exact split_split n b (by omega) m hm
    | none =>
      cases hw : wrapT t with
      | some k =>
        rw [splitF_wrap h2 hw] at hm
        obtain ⟨w1, w2⟩ := wrapT_some hw
        have e := size_one w2
        obtain ⟨x, hx, rfl⟩ := List.mem_map.1 hm
        rw [splitT_wrap (wrapN_two t x) (wrapN_wrap w1), split_split n k (by omega) x hx]
        rfl
      | none =>
        rw [splitF_one h2 hw, List.mem_singleton] at hm
        subst hm
        exact splitT_one h2 hw

end Go.Abs
