/- Parallel sentences, and the notices in which two of them become one: walked. -/
import Derived.Test.YtfkfcjdoebjlfaaW39
import Derived.Test.YtfkfcjdoebjlfaaL39a
namespace Go.Proofs.Ytfkfcjdoebjlfaa
open Go Go.Abs Go.Abs.Asks
set_option linter.unusedVariables false
set_option linter.unusedSimpArgs false
set_option linter.unusedSectionVars false

def parB (t u : Tree) : Bool := match t.subj, u.subj with
  | some a, some b => !(a.same b) && u.same (t.withSubj b)
  | _, _ => false

def alsoT (a np : Tree) : Tree := .node sAlso [] [a, np]

/-- The new notice as far as it goes. -/
def partL (ts : List Tree) (i : Nat) (t : Tree) : Nat → List Tree
  | 0 => []
  | k + 1 => partL ts i t k ++ (if k + 1 = i then [t] else if k = i then [] else match ts[k]? with
    | some x => [x]
    | none => [])

def introAt (ts : List Tree) (i : Nat) : List (List Tree) := match ts[i - 1]?, ts[i]? with
  | some a, some b => if parB a b = true then match b.subj with
      | some np => if 60 < (alsoT a np).size then [] else [partL ts i (alsoT a np) ts.length]
      | none => []
    else []
  | _, _ => []

def introL (ts : List Tree) : Nat → List (List Tree)
  | 0 => []
  | k + 1 => introL ts k ++ introAt ts (k + 1)

def lists (ls : List (List Tree)) : List (List D) := ls.map fun l => [.sl 3 (trees l)]
theorem lists_len (ls : List (List Tree)) : (lists ls).length = ls.length := by simp [lists]
theorem lists_app (ls ms : List (List Tree)) : lists (ls ++ ms) = lists ls ++ lists ms := by simp [lists]
theorem lists_get {ls : List (List Tree)} {i : Nat} {l : List Tree} (h : ls[i]? = some l) : (lists ls)[i]? = some [.sl 3 (trees l)] := by
  rw [lists, List.getElem?_map, h]; rfl
theorem partL_len (ts : List Tree) (i : Nat) (t : Tree) : ∀ k, (partL ts i t k).length ≤ k
  | 0 => Nat.le_refl _
  | k + 1 => by
    simp only [partL, List.length_append]
    have := partL_len ts i t k
    split
    · simp only [List.length_singleton]; omega
    · split
      · simp only [List.length_nil]; omega
      · split <;> simp only [List.length_singleton, List.length_nil] <;> omega
theorem introAt_len (ts : List Tree) (i : Nat) : (introAt ts i).length ≤ 1 := by
  unfold introAt
  split
  · split
    · split
      · split
        · simp
        · simp
      · simp
    · simp
  · simp
theorem introL_len (ts : List Tree) : ∀ k, (introL ts k).length ≤ k
  | 0 => Nat.le_refl _
  | k + 1 => by simp only [introL, List.length_append]; have := introL_len ts k; have := introAt_len ts (k + 1); omega
theorem subj_bulk : ∀ (t s : Tree), t.subj = some s → s.bulk < t.bulk
  | .node f vs [], s, h => by simp [Tree.subj] at h
  | .node f vs (k :: ks), s, h => by
    have e := subj_eq (.node f vs (k :: ks))
    rw [h] at e
    simp only [Tree.ks, List.getElem?_cons_zero, Tree.fn, Tree.bulk, bulks] at e ⊢
    rcases Bool.eq_false_or_eq_true (frame4 f) with hf | hf
    · simp only [hf, if_true, Option.some.injEq] at e
      subst e; omega
    · rcases Bool.eq_false_or_eq_true (wrap5 f) with hw | hw
      · simp only [hf, hw, Bool.false_eq_true, if_false, if_true] at e
        have := subj_bulk k s e.symm
        omega
      · simp [hf, hw] at e
variable [Asks]

theorem parallel_ev (t u : Tree) (ht : t.ok) (hu : u.ok) : Ev pr 21 [t.d, u.d] (.ret [.d (.bool (parB t u))]) := by
  apply Ev.enter; intro c; (conv => arg 1; ext i; whnf)
  refine Evx.call (subject_ev t) ?_
  unfold parB
  cases hs : t.subj with
  | none =>
    (conv => arg 1; ext i; whnf)
    refine Evx.call (subject_ev u) ?_
    cases hs2 : u.subj with
    | none => (conv => arg 1; ext i; whnf); exact Evx.pure rfl
    | some b => (conv => arg 1; ext i; whnf); exact Evx.pure rfl
  | some a =>
    (conv => arg 1; ext i; whnf)
    refine Evx.call (subject_ev u) ?_
    cases hs2 : u.subj with
    | none => (conv => arg 1; ext i; whnf); exact Evx.pure rfl
    | some b =>
      have hao : a.ok := by have := subj_bulk t a hs; unfold Tree.ok at ht ⊢; omega
      (conv => arg 1; ext i; whnf)
      refine Evx.call (same_ev a b hao) ?_
      (conv => arg 1; ext i; whnf)
      refine Evx.bool (fun h1 => ?_) (fun h1 => ?_)
      · (conv => arg 1; ext i; whnf)
        refine Evx.pure ?_
        dsimp only; rw [h1]; rfl
      · (conv => arg 1; ext i; whnf)
        refine Evx.call (withSubject_ev t b ht) ?_
        unfold withOut
        rw [hs]
        (conv => arg 1; ext i; whnf)
        refine Evx.call (same_ev u (t.withSubj b) hu) ?_
        (conv => arg 1; ext i; whnf)
        refine Evx.pure ?_
        dsimp only; rw [h1]; rfl

theorem introduce_ev (ts : List Tree) (hb : bulks ts < 2 ^ 21) : Ev pr 17 [.sl 3 (trees ts)] (.ret [.own (.res 0) 1 (lists (introL ts (ts.length - 1)))]) := by
  have hl := bulks_len ts
  have ho : ∀ (i : Nat) t, ts[i]? = some t → t.bulk < 2 ^ 21 := by
    intro i t h; have := bulk_get h; omega
  apply Ev.enter; intro c; (conv => arg 1; ext i; whnf)
  refine (Evx.loop hint17 3 (α := { i : Nat // 1 ≤ i }) (fun i => [some (.d (.sl 3 (trees ts))), some (.own (.tmp 1 3 0) 1 (lists (introL ts (i.1 - 1)))), some (.d (.int .i64 i.1))]) (fun _ => []) 1 [] (fun i => ts.length - i.1) (fun i => .ret [.own (.res 0) 1 (lists (introL ts (if i.1 ≤ ts.length then ts.length - 1 else i.1 - 1)))]) ?_ ⟨1, Nat.le_refl _⟩ (fun _ => rfl) (fun _ => rfl) (fun _ => rfl) (fun _ => by kernel_rfl)).to (by
    dsimp only
    split
    · rfl
    · rename_i h
      have : ts.length = 0 := by omega
      rw [this])
  rintro ⟨i, hi⟩ bx L ih
  have hlen := introL_len ts (i - 1)
  have e1 : introL ts i = introL ts (i - 1) ++ introAt ts i := by
    obtain ⟨k, rfl⟩ : ∃ k, i = k + 1 := ⟨i - 1, by omega⟩
    rfl
  (conv => arg 1; ext i; whnf)
  refine Evx.bool (fun h2 => ?_) (fun h2 => ?_)
  · have h2 := hold_true.1 h2
    simp only [trees_len, decide_eq_true_eq] at h2
    have h2 : i < ts.length := by omega
    obtain ⟨a, ha⟩ := get_some (l := ts) (i := i - 1) (by omega)
    obtain ⟨b, hb'⟩ := get_some (l := ts) (i := i) (by omega)
    have hao := ho _ a ha
    have hbo := ho _ b hb'
    rw [if_pos (by dsimp only; omega)]
    have next : introAt ts i = [] → ∀ (s : Nat → St), (∀ j, headAll hint17 3 (s j) = (true, [some (.d (.sl 3 (trees ts))), some (.own (.tmp 1 3 0) 1 (lists (introL ts (i - 1)))), some (.d (.int .i64 ((i + 1 : Nat) : Int)))], [], 1, [])) → Evx (fun j => L j (s j)) (.ret [.own (.res 0) 1 (lists (introL ts (ts.length - 1)))]) := by
      intro h0 s hs
      refine (ih ⟨i + 1, by omega⟩ s (by dsimp only; omega) ?_).to ?_
      · intro j
        rw [hs j]
        dsimp only
        rw [show i + 1 - 1 = i by omega, e1, h0, List.append_nil]
      · dsimp only
        rw [if_pos (by omega)]
    (conv => arg 1; ext i; whnf)
    refine Evx.int (n' := ((i - 1 : Nat) : Int)) (by rw [wrap_small] <;> dsimp only <;> omega) ?_
    (conv => arg 1; ext i; whnf)
    refine Evx.idx rfl (trees_get ha) ?_
    (conv => arg 1; ext i; whnf)
    refine Evx.idx rfl (trees_get hb') ?_
    (conv => arg 1; ext i; whnf)
    refine Evx.call (parallel_ev a b (by unfold Tree.ok; omega) (by unfold Tree.ok; omega)) ?_
    (conv => arg 1; ext i; whnf)
    refine Evx.bool (fun h3 => ?_) (fun h3 => ?_)
    · simp only [Bool.not_eq_true'] at h3
      have h0 : introAt ts i = [] := by
        unfold introAt; rw [ha, hb']; dsimp only; rw [if_neg (by rw [h3]; decide)]
      (conv => arg 1; ext i; whnf)
      refine Evx.int (wrap_succ (by first | omega | (dsimp only; omega))) ?_
      (conv => arg 1; ext i; whnf)
      exact next h0 _ (fun _ => by kernel_rfl)
    simp only [Bool.not_eq_false'] at h3
    obtain ⟨np, hnp⟩ : ∃ np, b.subj = some np := by
      cases hq : b.subj with
      | none => cases hqa : a.subj <;> simp [parB, hq, hqa] at h3
      | some np => exact ⟨np, rfl⟩
    have hnb := subj_bulk b np hnp
    have hto : (alsoT a np).ok := by unfold Tree.ok alsoT; simp only [Tree.bulk, bulks, List.length_nil]; omega
    (conv => arg 1; ext i; whnf)
    refine Evx.idx rfl (trees_get hb') ?_
    (conv => arg 1; ext i; whnf)
    refine Evx.call (subject_ev b) ?_
    rw [hnp]
    (conv => arg 1; ext i; whnf)
    refine Evx.int (n' := ((i - 1 : Nat) : Int)) (by rw [wrap_small] <;> dsimp only <;> omega) ?_
    (conv => arg 1; ext i; whnf)
    refine Evx.idx rfl (trees_get ha) ?_
    (conv => arg 1; ext i; whnf)
    have et := etree_ev sAlso [a, np]
    rw [trees_cons, trees_cons] at et
    refine Evx.call et ?_
    (conv => arg 1; ext i; whnf)
    refine Evx.call (eclone_ev (alsoT a np) hto) ?_
    (conv => arg 1; ext i; whnf)
    refine Evx.call (aSize_ev (alsoT a np) hto) ?_
    (conv => arg 1; ext i; whnf)
    refine Evx.bool (fun h4 => ?_) (fun h4 => ?_)
    · have h4 := hold_true.1 h4
      simp only [gt_iff_lt, decide_eq_true_eq] at h4
      have h0 : introAt ts i = [] := by
        unfold introAt; rw [ha, hb']; dsimp only; rw [if_pos h3, hnp]; dsimp only; rw [if_pos (by omega)]
      (conv => arg 1; ext i; whnf)
      refine Evx.int (wrap_succ (by first | omega | (dsimp only; omega))) ?_
      (conv => arg 1; ext i; whnf)
      exact next h0 _ (fun _ => by kernel_rfl)
    have h4 := hold_false.1 h4
    simp only [gt_iff_lt, decide_eq_false_iff_not] at h4
    have h0 : introAt ts i = [partL ts i (alsoT a np) ts.length] := by
      unfold introAt; rw [ha, hb']; dsimp only; rw [if_pos h3, hnp]; dsimp only; rw [if_neg (by omega)]
    (conv => arg 1; ext i; whnf)
    refine Evx.loop hint17 11 (α := Nat) (fun k => [some (.d (.sl 3 (trees ts))), some (.own (.tmp 1 3 0) 1 (lists (introL ts (i - 1)))), some (.d (.int .i64 i)), some (.ptr 1 7 0), some (.own (.tmp 1 8 0) 3 (trees (partL ts i (alsoT a np) k))), some (.d (.sl 3 (trees ts))), some (.d (.int .i64 (trees ts).length)), some (.d (.int .i64 k))]) (fun _ => [some (treeBox (alsoT a np))]) 1 [] (fun k => ts.length - k) (fun k => _) ?_ 0 (fun _ => rfl) (fun _ => rfl) (fun _ => rfl) (fun _ => by kernel_rfl)
    intro k bx2 L2 ih2
    have hpl := partL_len ts i (alsoT a np) k
    (conv => arg 1; ext i; whnf)
    refine Evx.bool (fun h5 => ?_) (fun h5 => ?_)
    · have h5 := hold_true.1 h5
      simp only [trees_len, decide_eq_true_eq] at h5
      obtain ⟨x, hx⟩ := get_some (l := ts) (i := k) (by omega)
      have hxo := ho _ x hx
      (conv => arg 1; ext i; whnf)
      refine Evx.idx rfl (trees_get hx) ?_
      (conv => arg 1; ext i; whnf)
      refine Evx.int (n' := ((i - 1 : Nat) : Int)) (by rw [wrap_small] <;> omega) ?_
      (conv => arg 1; ext i; whnf)
      refine Evx.bool (fun h6 => ?_) (fun h6 => ?_)
      · have h6 := hold_true.1 h6
        simp only [beq_iff_eq] at h6
        (conv => arg 1; ext i; whnf)
        refine Evx.appd rfl (m := ((trees (partL ts i (alsoT a np) k)).length + 1) * 65) (by rw [trees_len]; omega) ?_
        (conv => arg 1; ext i; whnf)
        refine Evx.int (wrap_succ (by omega)) ?_
        (conv => arg 1; ext i; whnf)
        refine ih2 (k + 1) _ (by omega) ?_
        intro j
        rw [show partL ts i (alsoT a np) (k + 1) = partL ts i (alsoT a np) k ++ [alsoT a np] by simp only [partL]; rw [if_pos (by omega)], trees_app, trees_cons]
        kernel_rfl
      · have h6 := hold_false.1 h6
        simp only [beq_eq_false_iff_ne, ne_eq] at h6
        (conv => arg 1; ext i; whnf)
        refine Evx.bool (fun h7 => ?_) (fun h7 => ?_)
        · have h7 := hold_true.1 h7
          simp only [beq_iff_eq] at h7
          (conv => arg 1; ext i; whnf)
          refine Evx.int (wrap_succ (by omega)) ?_
          (conv => arg 1; ext i; whnf)
          refine ih2 (k + 1) _ (by omega) ?_
          intro j
          rw [show partL ts i (alsoT a np) (k + 1) = partL ts i (alsoT a np) k by simp only [partL]; rw [if_neg (by omega), if_pos (by omega), List.append_nil]]
          kernel_rfl
        · have h7 := hold_false.1 h7
          simp only [beq_eq_false_iff_ne, ne_eq] at h7
          (conv => arg 1; ext i; whnf)
          refine Evx.call (eclone_ev x (by unfold Tree.ok; omega)) ?_
          (conv => arg 1; ext i; whnf)
          refine Evx.appd rfl (m := ((trees (partL ts i (alsoT a np) k)).length + 1) * 65) (by rw [trees_len]; omega) ?_
          (conv => arg 1; ext i; whnf)
          refine Evx.int (wrap_succ (by omega)) ?_
          (conv => arg 1; ext i; whnf)
          refine ih2 (k + 1) _ (by omega) ?_
          intro j
          rw [show partL ts i (alsoT a np) (k + 1) = partL ts i (alsoT a np) k ++ [x] by simp only [partL]; rw [if_neg (by omega), if_neg (by omega), hx], trees_app, trees_cons]
          kernel_rfl
    · have h5 := hold_false.1 h5
      simp only [trees_len, decide_eq_false_iff_not] at h5
      have hk : partL ts i (alsoT a np) k = partL ts i (alsoT a np) ts.length := by
        have : ∀ n, partL ts i (alsoT a np) (ts.length + n) = partL ts i (alsoT a np) ts.length := by
          intro n
          induction n with
          | zero => rfl
          | succ n ihn =>
            rw [show ts.length + (n + 1) = (ts.length + n) + 1 by omega]
            simp only [partL]
            rw [ihn, if_neg (by omega), if_neg (by omega), List.getElem?_eq_none (by omega), List.append_nil]
        have := this (k - ts.length)
        rwa [show ts.length + (k - ts.length) = k by omega] at this
      (conv => arg 1; ext i; whnf)
      refine Evx.appd rfl (m := ((lists (introL ts (i - 1))).length + 1) * 25) (by rw [lists_len]; omega) ?_
      (conv => arg 1; ext i; whnf)
      refine Evx.int (wrap_succ (by first | omega | (dsimp only; omega))) ?_
      (conv => arg 1; ext i; whnf)
      refine (ih ⟨i + 1, by omega⟩ _ (by dsimp only; omega) ?_).to ?_
      · intro j
        dsimp only
        rw [show i + 1 - 1 = i by omega, e1, h0, lists_app, ← hk]
        kernel_rfl
      · try dsimp only
        rw [if_pos (by omega)]
  · have h2 := hold_false.1 h2
    simp only [trees_len, decide_eq_false_iff_not] at h2
    have h2 : ¬ i < ts.length := by omega
    (conv => arg 1; ext i; whnf)
    refine Evx.pure ?_
    dsimp only
    rw [show (if i ≤ ts.length then ts.length - 1 else i - 1) = i - 1 by split <;> omega]
    rfl
end Go.Proofs.Ytfkfcjdoebjlfaa
