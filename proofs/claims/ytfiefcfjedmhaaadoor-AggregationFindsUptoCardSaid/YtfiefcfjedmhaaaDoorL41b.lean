/- The laws Split, Parts: walked. -/
import Derived.Test.YtfiefcfjedmhaaaDoorP41
import Derived.Test.YtfiefcfjedmhaaaDoorL41a
namespace Go.Proofs.YtfiefcfjedmhaaaDoor
open Go Go.Abs Go.Abs.Asks
set_option linter.unusedVariables false
set_option linter.unusedSimpArgs false
set_option linter.unusedSectionVars false
variable [Asks]

theorem few_one {t : Tree} (h : few41 [t] = true) : t.size ≤ 40 := by
  simp [few41] at h; omega

theorem splitLaw_ev (t : Tree) (hb : t.bulk < 2 ^ 21) : Ev pr 7 [t.d] (.ret [.d (.bool true)]) := by
  have ht : t.ok := by unfold Tree.ok; omega
  have ef := few41_ev [t] (by simp) (one_ok ht)
  rw [trees_cons] at ef
  apply Ev.enter; intro c; (conv => arg 1; ext i; whnf)
  refine Evx.call awake41_ev ?_
  (conv => arg 1; ext i; whnf)
  refine Evx.call ef ?_
  (conv => arg 1; ext i; whnf)
  refine Evx.bool (fun h1 => ?_) (fun h1 => ?_)
  · (conv => arg 1; ext i; whnf)
    refine Evx.call awake41_ev ?_
    (conv => arg 1; ext i; whnf)
    exact Evx.pure rfl
  (conv => arg 1; ext i; whnf)
  have hs := few_one (by simpa using h1)
  have l1 := split_len t.size t (Nat.le_refl _)
  have l2 := sq_le (t := t) (by omega)
  have l3 := split_bulk t.size t (Nat.le_refl _)
  have e1 := split_ev t (by omega) (by omega)
  have e2 := rSplit_ev t.size t (Nat.le_refl _) (by omega) (by omega)
  have e3 := merged_ev t (by omega) (by omega)
  have e4 := sameAll_ev (splitT t) (splitT t) (by have := l1.1; unfold splitT; omega) (by
    intro i m hm
    have := l3 m (List.mem_of_getElem? hm)
    unfold Tree.ok; omega)
  rw [(sames_iff _ _).2 rfl] at e4
  refine Evx.call e1 ?_
  (conv => arg 1; ext i; whnf)
  refine Evx.call e2 ?_
  (conv => arg 1; ext i; whnf)
  refine Evx.call e4 ?_
  (conv => arg 1; ext i; whnf)
  refine Evx.call e3 ?_
  (conv => arg 1; ext i; whnf)
  refine Evx.pure ?_
  rw [hold_eq, trees_len]
  simp

theorem partsLaw_ev (t : Tree) (hb : t.bulk < 2 ^ 21) : Ev pr 8 [t.d] (.ret [.d (.bool true)]) := by
  have ht : t.ok := by unfold Tree.ok; omega
  have ef := few41_ev [t] (by simp) (one_ok ht)
  rw [trees_cons] at ef
  apply Ev.enter; intro c; (conv => arg 1; ext i; whnf)
  refine Evx.call awake41_ev ?_
  (conv => arg 1; ext i; whnf)
  refine Evx.call ef ?_
  (conv => arg 1; ext i; whnf)
  refine Evx.bool (fun h1 => ?_) (fun h1 => ?_)
  · (conv => arg 1; ext i; whnf)
    refine Evx.call awake41_ev ?_
    (conv => arg 1; ext i; whnf)
    exact Evx.pure rfl
  (conv => arg 1; ext i; whnf)
  have hs := few_one (by simpa using h1)
  have l1 := split_len t.size t (Nat.le_refl _)
  have l2 := sq_le (t := t) (by omega)
  have l3 := split_bulk t.size t (Nat.le_refl _)
  have l4 := split_size t.size t (Nat.le_refl _)
  have l5 := split_split t.size t (Nat.le_refl _)
  have l6 : 1 ≤ (splitT t).length := l1.2.2
  have l7 : (splitT t).length ≤ 2 ^ 30 := by have := l1.1; unfold splitT; omega
  have e1 := split_ev t (by omega) (by omega)
  refine Evx.call e1 ?_
  (conv => arg 1; ext i; whnf)
  change ∀ m ∈ splitT t, m.bulk ≤ t.bulk at l3
  change ∀ m ∈ splitT t, m.size ≤ t.size at l4
  change ∀ m ∈ splitT t, splitT m = [m] at l5
  generalize splitT t = ps at *
  refine Evx.loop hint8 5 (α := Nat) (fun j => [some (.d (.sl 3 (trees ps))), some (.d (.int .i64 j))]) (fun _ => []) 1 [] (fun j => ps.length - j) (fun j => _) ?_ 0 (fun _ => rfl) (fun _ => rfl) (fun _ => rfl) (fun _ => by kernel_rfl)
  intro j bx L ih
  (conv => arg 1; ext i; whnf)
  refine Evx.bool (fun h3 => ?_) (fun h3 => ?_)
  · have h3 := hold_true.1 h3
    simp only [trees_len, decide_eq_true_eq] at h3
    obtain ⟨m, hm⟩ := get_some (l := ps) (i := j) (by omega)
    have hmm := List.mem_of_getElem? hm
    have hmb := l3 m hmm
    have hms := l4 m hmm
    have em := split_ev m (by omega) (by omega)
    rw [l5 m hmm] at em
    (conv => arg 1; ext i; whnf)
    refine Evx.idx (m := j) rfl (trees_get hm) ?_
    (conv => arg 1; ext i; whnf)
    refine Evx.call em ?_
    (conv => arg 1; ext i; whnf)
    refine Evx.bool (fun h4 => ?_) (fun h4 => ?_)
    · exact absurd (hold_true.1 h4) (by rw [trees_len]; simp)
    (conv => arg 1; ext i; whnf)
    refine Evx.idx (m := 0) rfl (trees_get (ts := [m]) (i := 0) (t := m) rfl) ?_
    (conv => arg 1; ext i; whnf)
    refine Evx.idx (m := j) rfl (trees_get hm) ?_
    (conv => arg 1; ext i; whnf)
    have es := rSame_ev m m (by unfold Tree.ok; omega)
    rw [(same_iff _ _).2 rfl] at es
    refine Evx.call es ?_
    (conv => arg 1; ext i; whnf)
    refine Evx.int (wrap_succ (n := j) (by omega)) ?_
    (conv => arg 1; ext i; whnf)
    exact ih (j + 1) _ (by omega) (fun _ => by kernel_rfl)
  · (conv => arg 1; ext i; whnf)
    refine Evx.pure ?_
    rw [hold_eq, trees_len]
    have : 0 < ps.length := by omega
    simp [this]
end Go.Proofs.YtfiefcfjedmhaaaDoor
