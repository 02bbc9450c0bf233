/- The laws Frame, Merge, Moves: walked. -/
import Derived.Test.YtfiefcfjedmhaaaDoorM41
import Derived.Test.YtfiefcfjedmhaaaDoorA41
namespace Go.Proofs.YtfiefcfjedmhaaaDoor
open Go Go.Abs Go.Abs.Asks
set_option linter.unusedVariables false
set_option linter.unusedSimpArgs false
set_option linter.unusedSectionVars false

theorem one_ok {t : Tree} (h : t.ok) : ∀ (i : Nat) u, [t][i]? = some u → u.ok := by
  intro i u hu
  match i, hu with
  | 0, hu => cases hu; exact h
theorem two_ok {t v : Tree} (h : t.ok) (h2 : v.ok) : ∀ (i : Nat) u, [t, v][i]? = some u → u.ok := by
  intro i u hu
  match i, hu with
  | 0, hu => cases hu; exact h
  | 1, hu => cases hu; exact h2
theorem three_ok {t v w : Tree} (h : t.ok) (h2 : v.ok) (h3 : w.ok) : ∀ (i : Nat) u, [t, v, w][i]? = some u → u.ok := by
  intro i u hu
  match i, hu with
  | 0, hu => cases hu; exact h
  | 1, hu => cases hu; exact h2
  | 2, hu => cases hu; exact h3
section
variable [Asks]

theorem sameAll_mix : Ev pr 13 [.nils, .sl 3 []] (.ret [.d (.bool true)]) := by
  apply Ev.enter; intro c; (conv => arg 1; ext i; whnf)
  refine Evx.bool (fun h1 => ?_) (fun h1 => ?_)
  · exact absurd (hold_true.1 h1) (by simp)
  · (conv => arg 1; ext i; whnf)
    refine (Evx.loop hint13 4 (α := Unit) (fun a => [some (.d .nils), some (.d (.sl 3 [])), some (.d (.int .i64 0))]) (fun a => []) 1 [] (fun a => 0) (fun a => .ret [.d (.bool true)]) ?_ () (fun _ => rfl) (fun _ => rfl) (fun _ => rfl) (fun _ => by kernel_rfl)).to rfl
    intro a bx L ih; (conv => arg 1; ext i; whnf)
    refine Evx.bool (fun h2 => ?_) (fun h2 => ?_)
    · exact absurd (hold_true.1 h2) (by simp)
    · (conv => arg 1; ext i; whnf)
      exact Evx.pure rfl

theorem frameLaw_ev (t : Tree) (ht : t.ok) : Ev pr 6 [t.d] (.ret [.d (.bool true)]) := by
  have ef := few41_ev [t] (by simp) (one_ok ht)
  rw [trees_cons] at ef
  have e1 := FrameP_ev t ht
  have e2 := rFrame_ev t
  apply Ev.enter; intro c; (conv => arg 1; ext i; whnf)
  refine Evx.call awake41_ev ?_
  (conv => arg 1; ext i; whnf)
  refine Evx.call ef ?_
  (conv => arg 1; ext i; whnf)
  refine Evx.bool (fun h1 => ?_) (fun h1 => ?_)
  · (conv => arg 1; ext i; whnf)
    refine Evx.call awake41_ev ?_
    (conv => arg 1; ext i; whnf)
    exact Evx.pure rfl
  (conv => arg 1; ext i; whnf)
  cases hf : frameT t with
  | none =>
    rw [hf] at e1 e2
    refine Evx.call e1 ?_
    (conv => arg 1; ext i; whnf)
    refine Evx.call e2 ?_
    (conv => arg 1; ext i; whnf)
    have ez := rSame_ev zeroT zeroT (by unfold Tree.ok zeroT; simp [Tree.bulk, bulks])
    rw [(same_iff _ _).2 rfl] at ez
    refine Evx.bool (fun h2 => ?_) (fun h2 => ?_)
    · (conv => arg 1; ext i; whnf)
      refine Evx.call ez ?_
      (conv => arg 1; ext i; whnf)
      refine Evx.call ez ?_
      (conv => arg 1; ext i; whnf)
      exact Evx.pure rfl
    · exact absurd (seq_iff.2 rfl) (by rw [h2]; decide)
  | some p =>
    obtain ⟨a, b⟩ := p
    obtain ⟨h3, h4⟩ := frameT_some hf
    have k0 : t.ks[0]? = some a := by rw [h4]; rfl
    have k1 : t.ks[1]? = some b := by rw [h4]; rfl
    rw [hf] at e1 e2
    refine Evx.call e1 ?_
    (conv => arg 1; ext i; whnf)
    refine Evx.call e2 ?_
    (conv => arg 1; ext i; whnf)
    refine Evx.bool (fun h2 => ?_) (fun h2 => ?_)
    · (conv => arg 1; ext i; whnf)
      have ea := rSame_ev a a (ht.kid k0)
      rw [(same_iff _ _).2 rfl] at ea
      refine Evx.call ea ?_
      (conv => arg 1; ext i; whnf)
      have eb := rSame_ev b b (ht.kid k1)
      rw [(same_iff _ _).2 rfl] at eb
      refine Evx.call eb ?_
      (conv => arg 1; ext i; whnf)
      exact Evx.pure rfl
    · exact absurd (seq_iff.2 rfl) (by rw [h2]; decide)

theorem mergeLaw_ev (t u : Tree) (ht : t.bulk < 2 ^ 21) (hu : u.bulk < 2 ^ 21) : Ev pr 3 [t.d, u.d] (.ret [.d (.bool true)]) := by
  have hto : t.ok := by unfold Tree.ok; omega
  have huo : u.ok := by unfold Tree.ok; omega
  have ef := few41_ev [t, u] (by simp) (two_ok hto huo)
  rw [trees_cons, trees_cons] at ef
  have e1 := merge_ev t u (by omega) (by omega)
  have e2 := rMerge_ev t u (by omega) (by omega)
  have hml := merge_len t u
  have hmb := merge_bulk t u
  apply Ev.enter; intro c; (conv => arg 1; ext i; whnf)
  refine Evx.call awake41_ev ?_
  (conv => arg 1; ext i; whnf)
  refine Evx.call ef ?_
  (conv => arg 1; ext i; whnf)
  refine Evx.bool (fun h1 => ?_) (fun h1 => ?_)
  · (conv => arg 1; ext i; whnf)
    refine Evx.call awake41_ev ?_
    (conv => arg 1; ext i; whnf)
    exact Evx.pure rfl
  (conv => arg 1; ext i; whnf)
  rcases mergeV_cases t u with hv | ⟨hv, hms⟩
  · rw [hv] at e1
    refine Evx.call e1 ?_
    (conv => arg 1; ext i; whnf)
    refine Evx.call e2 ?_
    (conv => arg 1; ext i; whnf)
    have es := sameAll_ev (mergeT t u) (mergeT t u) (by omega) (by
      intro i m hm
      have := hmb m (List.mem_of_getElem? hm)
      unfold Tree.ok; omega)
    rw [(sames_iff _ _).2 rfl] at es
    refine Evx.call es ?_
    (conv => arg 1; ext i; whnf)
    exact Evx.pure rfl
  · rw [hv] at e1
    rw [hms] at e2
    refine Evx.call e1 ?_
    (conv => arg 1; ext i; whnf)
    refine Evx.call e2 ?_
    (conv => arg 1; ext i; whnf)
    refine Evx.call sameAll_mix ?_
    (conv => arg 1; ext i; whnf)
    exact Evx.pure rfl

theorem moves_mem_ok {ts l : List Tree} {n : Nat} (hb : bulks ts < 2 ^ 21) (h : l ∈ movesT ts n) : l.length < 2 ^ 40 ∧ ∀ (i : Nat) t, l[i]? = some t → t.bulk < 2 ^ 21 := by
  obtain ⟨i, _, h⟩ := movesT_mem h
  obtain ⟨h1, h2⟩ := moveAt_bulk h
  have := bulks_len ts
  refine ⟨by omega, fun i t ht => ?_⟩
  have := bulk_get ht
  omega

theorem movesLaw_ev (ts : List Tree) (hb : bulks ts < 2 ^ 21) : Ev pr 4 [.sl 3 (trees ts)] (.ret [.d (.bool true)]) := by
  have hl := bulks_len ts
  have ef := few41_ev ts (by omega) (by intro i t h; have := bulk_get h; unfold Tree.ok; omega)
  have e1 := moves_ev ts hb
  have e2 := rMoves_ev ts hb
  have hmem : ∀ (a : Nat) l, (movesT ts (ts.length - 1))[a]? = some l → l.length < 2 ^ 40 ∧ ∀ (i : Nat) t, l[i]? = some t → t.bulk < 2 ^ 21 := fun a l h => moves_mem_ok hb (List.mem_of_getElem? h)
  have hlen := movesT_len ts (ts.length - 1)
  generalize movesT ts (ts.length - 1) = ls at *
  apply Ev.enter; intro c; (conv => arg 1; ext i; whnf)
  refine Evx.call awake41_ev ?_
  (conv => arg 1; ext i; whnf)
  refine Evx.call ef ?_
  (conv => arg 1; ext i; whnf)
  refine Evx.bool (fun h1 => ?_) (fun h1 => ?_)
  · (conv => arg 1; ext i; whnf)
    refine Evx.call awake41_ev ?_
    (conv => arg 1; ext i; whnf)
    exact Evx.pure rfl
  (conv => arg 1; ext i; whnf)
  refine Evx.call e1 ?_
  (conv => arg 1; ext i; whnf)
  refine Evx.call e2 ?_
  (conv => arg 1; ext i; whnf)
  refine Evx.bool (fun h2 => ?_) (fun h2 => ?_)
  · exact absurd (hold_true.1 h2) (by simp)
  (conv => arg 1; ext i; whnf)
  refine Evx.loop hint4 7 (α := Nat) (fun a => [some (.d (.sl 1 (lists ls))), some (.d (.sl 1 (lists ls))), some (.d (.int .i64 (lists ls).length)), some (.d (.int .i64 a))]) (fun a => []) 1 [] (fun a => ls.length - a) (fun a => _) ?_ 0 (fun _ => rfl) (fun _ => rfl) (fun _ => rfl) (fun _ => by kernel_rfl)
  intro a bx L ih; (conv => arg 1; ext i; whnf)
  refine Evx.bool (fun h3 => ?_) (fun h3 => ?_)
  · have h3 := hold_true.1 h3
    simp only [lists_len, decide_eq_true_eq] at h3
    obtain ⟨l, hl⟩ := get_some (l := ls) (i := a) (by omega)
    obtain ⟨h4, h5⟩ := hmem a l hl
    (conv => arg 1; ext i; whnf)
    refine Evx.idx (m := a) rfl (lists_get hl) ?_
    (conv => arg 1; ext i; whnf)
    refine Evx.idx (m := a) rfl (lists_get hl) ?_
    (conv => arg 1; ext i; whnf)
    have es := sameAll_ev l l h4 (fun i t ht => by have := h5 i t ht; unfold Tree.ok; omega)
    rw [(sames_iff l l).2 rfl] at es
    refine Evx.call es ?_
    (conv => arg 1; ext i; whnf)
    refine Evx.int (wrap_succ (n := a) (by omega)) ?_
    (conv => arg 1; ext i; whnf)
    exact ih (a + 1) _ (by omega) (fun _ => by kernel_rfl)
  · (conv => arg 1; ext i; whnf)
    exact Evx.pure rfl
end
end Go.Proofs.YtfiefcfjedmhaaaDoor
