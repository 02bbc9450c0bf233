/- The paths of subjects, in plain terms. No program. -/
import Derived.Test.YtfkfcjdoebjlfaaS39
namespace Go.Abs
open Go
set_option linter.unusedVariables false
set_option linter.unusedSimpArgs false

/-- The length of a subject's path. -/
def Tree.plen : Tree → Nat
  | .node _ _ [] => 0
  | .node f _ (k :: _) => if frame4 f then 1 else if wrap5 f then k.plen + 1 else 0
theorem plen_eq (t : Tree) : t.plen = (match t.ks[0]? with
    | none => 0
    | some k => if frame4 t.fn then 1 else if wrap5 t.fn then k.plen + 1 else 0) := by
  obtain ⟨f, vs, ks⟩ := t
  cases ks with
  | nil => simp only [Tree.plen, Tree.ks, List.getElem?_nil]
  | cons k ks => simp only [Tree.plen, Tree.ks, Tree.fn, List.getElem?_cons_zero]; rfl

def zeros (n : Nat) : List Int := List.replicate n 0
theorem zeros_len (n : Nat) : (zeros n).length = n := by simp [zeros]
theorem zeros_get {n i : Nat} (h : i < n) : (zeros n)[i]? = some 0 := by simp [zeros, h]
theorem zeros_succ (n : Nat) : zeros (n + 1) = 0 :: zeros n := rfl

def down : Nat → Tree → Option Tree
  | 0, t => some t
  | n + 1, t => match t.ks[0]? with
    | some k => down n k
    | none => none
def put : Nat → Tree → Tree → Tree
  | 0, _, u => u
  | n + 1, t, u => match t.ks with
    | [] => t
    | k :: ks => .node t.fn t.vs (put n k u :: ks)

theorem plen_bulk (t : Tree) : t.plen ≤ t.bulk := by
  induction t using Tree.rec' with
  | _ t ih =>
    rw [plen_eq]
    cases hk : t.ks[0]? with
    | none => exact Nat.zero_le _
    | some k =>
      have h1 := ih 0 k hk
      have h2 := Tree.kid_lt hk
      have h3 := bulk_pos t
      dsimp only
      split
      · omega
      · split
        · exact Nat.le_trans (Nat.succ_le_succ h1) h2
        · omega

theorem subj_down (t : Tree) : ∀ s, t.subj = some s → down t.plen t = some s ∧ t.plen ≠ 0 := by
  induction t using Tree.rec' with
  | _ t ih =>
    intro s h
    rw [plen_eq]
    rw [subj_eq] at h
    cases hk : t.ks[0]? with
    | none => rw [hk] at h; cases h
    | some k =>
      rw [hk] at h
      dsimp only at h ⊢
      split at h
      · rename_i hf
        rw [if_pos hf]
        cases h
        exact ⟨by simp only [down, hk], by omega⟩
      · rename_i hf
        split at h
        · rename_i hw
          rw [if_neg hf, if_pos hw]
          exact ⟨by simp only [down, hk]; exact (ih 0 k hk s h).1, by omega⟩
        · cases h

theorem with_put (np : Tree) (t : Tree) : ∀ s, t.subj = some s → put t.plen t np = t.withSubj np := by
  induction t using Tree.rec' with
  | _ t ih =>
    intro s h
    rw [plen_eq]
    rw [subj_eq] at h
    cases hk : t.ks[0]? with
    | none => rw [hk] at h; cases h
    | some k =>
      rw [hk] at h
      rw [withSubj_eq np t k hk]
      dsimp only at h ⊢
      have hks : t.ks = k :: t.ks.drop 1 := by
        cases hh : t.ks with
        | nil => rw [hh] at hk; simp at hk
        | cons a b => rw [hh] at hk; simp at hk; subst hk; rfl
      split at h
      · rename_i hf
        rw [if_pos hf]
        have hw : wrap5 t.fn = false := frame_wrap hf
        simp only [hw, Bool.false_eq_true, if_false]
        unfold put
        rw [hks]
        simp [put]
      · rename_i hf
        split at h
        · rename_i hw
          rw [if_neg hf, if_pos hw, if_pos hw]
          have := ih 0 k hk s h
          unfold put
          rw [hks]
          simp [this]
        · cases h

end Go.Abs
