/- The laws Expands, Parallel, Introduces, Parallels: walked. -/
import Derived.Test.YtfkfcjdoebjlfaaW39c
import Derived.Test.YtfkfcjdoebjlfaaL39c
import Derived.Test.YtfkfcjdoebjlfaaP39b
import Derived.Test.YtfkfcjdoebjlfaaL39a
namespace Go.Proofs.Ytfkfcjdoebjlfaa
open Go Go.Abs Go.Abs.Asks
set_option linter.unusedVariables false
set_option linter.unusedSimpArgs false
set_option linter.unusedSectionVars false

/-! ### Plain laws -/
theorem exN_big : ∀ d, exN (d + 9) = 512
  | 0 => by decide
  | d + 1 => by
    have := exN_big d
    show (if 256 < exN (d + 9) then exN (d + 9) else exN (d + 9) + exN (d + 9)) = 512
    rw [this, if_pos (by omega)]
theorem exN_small {d : Nat} (h : d ≤ 8) : exN d ≤ 256 := by
  have : ∀ d, d ≤ 8 → exN d ≤ 256 := by
    intro d h
    match d, h with
    | 0, _ | 1, _ | 2, _ | 3, _ | 4, _ | 5, _ | 6, _ | 7, _ | 8, _ => decide
  exact this d h
theorem exN_iff (d : Nat) : 256 < exN d ↔ 8 < d := by
  constructor
  · intro h
    by_cases h8 : 8 < d
    · exact h8
    · have := exN_small (d := d) (by omega); omega
  · intro h
    have := exN_big (d - 9)
    rw [show d - 9 + 9 = d by omega] at this
    omega

theorem with_with : ∀ (t a b s : Tree), t.subj = some s → (t.withSubj a).withSubj b = t.withSubj b := by
  intro t
  induction t using Tree.rec' with
  | _ t ih =>
    intro a b s h
    have h' := h
    rw [subj_eq] at h
    cases hk : t.ks[0]? with
    | none => rw [hk] at h; cases h
    | some k =>
      rw [hk] at h
      have e1 := withSubj_eq a t k hk
      have hw0 : (t.withSubj a).ks[0]? = some (if wrap5 t.fn then k.withSubj a else a) := by rw [e1]; rfl
      rw [withSubj_eq b _ _ hw0, withSubj_eq b t k hk, withSubj_fn, e1]
      simp only [Tree.vs, Tree.ks, List.drop_succ_cons, List.drop_zero]
      by_cases hw : wrap5 t.fn = true
      · have hf : frame4 t.fn = false := by
          cases hf : frame4 t.fn with
          | false => rfl
          | true => rw [frame_wrap hf] at hw; cases hw
        simp only [hf, Bool.false_eq_true, if_false, hw, if_true] at h
        rw [if_pos hw, if_pos hw, if_pos hw, ih 0 k hk a b s h]
      · rw [if_neg hw, if_neg hw]

theorem with_self : ∀ (t s : Tree), t.subj = some s → t.withSubj s = t := by
  intro t
  induction t using Tree.rec' with
  | _ t ih =>
    intro s h
    rw [subj_eq] at h
    cases hk : t.ks[0]? with
    | none => rw [hk] at h; cases h
    | some k =>
      rw [hk] at h
      rw [withSubj_eq s t k hk]
      have hks : t.ks = k :: t.ks.drop 1 := by
        cases hh : t.ks with
        | nil => rw [hh] at hk; simp at hk
        | cons a b => rw [hh] at hk; simp at hk; subst hk; rfl
      dsimp only at h
      rw [Tree.ext_iff']
      refine ⟨rfl, rfl, ?_⟩
      simp only [Tree.ks]
      split at h
      · rename_i hf
        cases h
        rw [frame_wrap hf]
        simp only [Bool.false_eq_true, if_false]
        exact hks.symm
      · split at h
        · rename_i hw
          rw [if_pos hw, ih 0 k hk s h]
          exact hks.symm
        · cases h

theorem parB_true {t u : Tree} : parB t u = true ↔ ∃ a b, t.subj = some a ∧ u.subj = some b ∧ a ≠ b ∧ u = t.withSubj b := by
  unfold parB
  cases ht : t.subj with
  | none => simp
  | some a =>
    cases hu : u.subj with
    | none => simp
    | some b =>
      simp only [Bool.and_eq_true, Bool.not_eq_true', Option.some.injEq]
      rw [Tree.same_eq a b, same_iff]
      simp

theorem parB_symm (t u : Tree) : parB t u = parB u t := by
  have key : ∀ t u : Tree, parB t u = true → parB u t = true := by
    intro t u h
    obtain ⟨a, b, h1, h2, h3, h4⟩ := parB_true.1 h
    refine parB_true.2 ⟨b, a, h2, h1, fun e => h3 e.symm, ?_⟩
    rw [h4, with_with t b a a h1, with_self t a h1]
  cases h1 : parB t u with
  | true => exact (key t u h1).symm
  | false =>
    cases h2 : parB u t with
    | true => rw [key u t h2] at h1; cases h1
    | false => rfl

theorem introRA_eq (ts : List Tree) (i : Nat) (hi : i + 1 < ts.length) : introRA ts i = introAt ts (i + 1) := by
  unfold introRA introAt
  simp only [Nat.add_sub_cancel]
  obtain ⟨a, ha⟩ := get_some (l := ts) (i := i) (by omega)
  obtain ⟨b, hb⟩ := get_some (l := ts) (i := i + 1) hi
  rw [ha, hb]
  dsimp only
  cases parB a b with
  | false => rfl
  | true =>
    cases b.subj with
    | none => rfl
    | some np =>
      dsimp only
      simp only [if_true]
      by_cases h : (alsoT a np).size ≤ 60
      · rw [if_pos h, if_neg (show ¬ 60 < (alsoT a np).size by omega), part_eq (show 1 ≤ i + 1 by omega) hi]
        simp only [Nat.add_sub_cancel]
      · rw [if_neg h, if_pos (show 60 < (alsoT a np).size by omega)]

theorem introR_eq (ts : List Tree) : ∀ n, n < ts.length → introR ts n = introL ts n
  | 0, _ => rfl
  | n + 1, h => by simp only [introR, introL]; rw [introR_eq ts n (by omega), introRA_eq ts n h]

section
variable [Asks]
theorem sameAll_nils : Ev pr 15 [.nils, .nils] (.ret [.d (.bool true)]) := by
  apply Ev.enter; intro c; (conv => arg 1; ext i; whnf)
  refine Evx.bool (fun h1 => ?_) (fun h1 => ?_)
  · exact absurd (hold_true.1 h1) (by decide)
  (conv => arg 1; ext i; whnf)
  refine Evx.loop hint15 4 (α := Unit) (fun a => [some (.d .nils), some (.d .nils), some (.d (.int .i64 0))]) (fun a => []) 1 [] (fun a => 0) (fun a => _) ?_ () (fun _ => rfl) (fun _ => rfl) (fun _ => rfl) (fun _ => by kernel_rfl)
  rintro ⟨⟩ bx L ih; (conv => arg 1; ext i; whnf)
  refine Evx.bool (fun h1 => ?_) (fun h1 => ?_)
  · exact absurd (hold_true.1 h1) (by decide)
  (conv => arg 1; ext i; whnf)
  exact Evx.pure rfl

theorem expands_ev (t : Tree) (ht : t.ok) : Ev pr 3 [t.d] (.ret [.d (.bool true)]) := by
  apply Ev.enter; intro c; (conv => arg 1; ext i; whnf)
  have e := few_ev [t] 1 (by simp) (by intro i u hu; cases i with
    | zero => cases hu; exact ht
    | succ i => simp at hu)
  rw [trees_cons] at e
  refine Evx.call e ?_
  (conv => arg 1; ext i; whnf)
  refine Evx.bool (fun h1 => ?_) (fun h1 => ?_)
  · (conv => arg 1; ext i; whnf)
    refine Evx.call awake39_ev ?_
    (conv => arg 1; ext i; whnf)
    exact Evx.pure rfl
  (conv => arg 1; ext i; whnf)
  have e1 := expandE_ev t ht
  have e2 := rExpand_ev t ht
  rw [remR_one] at e1
  unfold expR at e2
  by_cases h2 : t.depth ≠ 0 ∧ t.subj = none
  · rw [if_pos h2] at e1 e2
    refine Evx.call e1 ?_
    simp only [remOut]
    (conv => arg 1; ext i; whnf)
    refine Evx.call e2 ?_
    (conv => arg 1; ext i; whnf)
    refine Evx.call awake39_ev ?_
    (conv => arg 1; ext i; whnf)
    refine Evx.bool (fun h => ?_) (fun h => ?_)
    · (conv => arg 1; ext i; whnf)
      refine Evx.call sameAll_nils ?_
      (conv => arg 1; ext i; whnf)
      exact Evx.pure rfl
    · exact absurd (hold_false.1 h) (by decide)
  rw [if_neg h2] at e1 e2
  have hs : t.depth = 0 ∨ t.subj.isSome = true := by
    by_cases h0 : t.depth = 0
    · exact .inl h0
    · right
      cases hs : t.subj with
      | none => exact absurd ⟨h0, hs⟩ h2
      | some s => rfl
  have hlen := exL_len t.depth t rfl hs
  by_cases h3 : 8 < t.depth
  · rw [if_pos (by rw [hlen]; exact (exN_iff _).2 h3)] at e1
    rw [if_pos h3] at e2
    refine Evx.call e1 ?_
    simp only [remOut]
    (conv => arg 1; ext i; whnf)
    refine Evx.call e2 ?_
    (conv => arg 1; ext i; whnf)
    refine Evx.call awake39_ev ?_
    (conv => arg 1; ext i; whnf)
    refine Evx.bool (fun h => ?_) (fun h => ?_)
    · (conv => arg 1; ext i; whnf)
      refine Evx.call sameAll_nils ?_
      (conv => arg 1; ext i; whnf)
      exact Evx.pure rfl
    · exact absurd (hold_false.1 h) (by decide)
  rw [if_neg (by rw [hlen]; exact fun h => h3 ((exN_iff _).1 h)), exL_full t.depth t (by omega) rfl hs] at e1
  rw [if_neg h3] at e2
  have hfl := exF_len t.depth t rfl hs
  have hp : 2 ^ t.depth ≤ 2 ^ 8 := Nat.pow_le_pow_right (by omega) (by omega)
  have hso := sameAll_ev (exF t.depth t) (exF t.depth t) (by omega) (by
    intro i u hu
    rw [← exL_full t.depth t (by omega) rfl hs] at hu
    have := exL_bulk t.depth t u (List.mem_of_getElem? hu)
    unfold Tree.ok at ht ⊢
    omega)
  refine Evx.call e1 ?_
  simp only [remOut]
  (conv => arg 1; ext i; whnf)
  refine Evx.call e2 ?_
  (conv => arg 1; ext i; whnf)
  refine Evx.call awake39_ev ?_
  (conv => arg 1; ext i; whnf)
  refine Evx.bool (fun h => ?_) (fun h => ?_)
  · (conv => arg 1; ext i; whnf)
    refine Evx.call hso ?_
    (conv => arg 1; ext i; whnf)
    refine Evx.pure ?_
    rw [(sames_iff _ _).2 rfl]
  · exact absurd (hold_false.1 h) (by decide)

theorem parLaw_ev (t u : Tree) (ht : t.bulk < 2 ^ 29) (hu : u.bulk < 2 ^ 29) : Ev pr 7 [t.d, u.d] (.ret [.d (.bool true)]) := by
  have hto : t.ok := by unfold Tree.ok; omega
  have huo : u.ok := by unfold Tree.ok; omega
  apply Ev.enter; intro c; (conv => arg 1; ext i; whnf)
  have e := few_ev [t, u] 2 (by simp) (by intro i x hx; cases i with
    | zero => cases hx; exact hto
    | succ i => cases i with
      | zero => cases hx; exact huo
      | succ i => simp at hx)
  rw [trees_cons, trees_cons] at e
  refine Evx.call e ?_
  (conv => arg 1; ext i; whnf)
  refine Evx.bool (fun h1 => ?_) (fun h1 => ?_)
  · (conv => arg 1; ext i; whnf)
    refine Evx.call awake39_ev ?_
    (conv => arg 1; ext i; whnf)
    exact Evx.pure rfl
  (conv => arg 1; ext i; whnf)
  refine Evx.call awake39_ev ?_
  (conv => arg 1; ext i; whnf)
  refine Evx.call (parallel_ev t u hto huo) ?_
  (conv => arg 1; ext i; whnf)
  refine Evx.call (rParallel_ev t u ht hu) ?_
  (conv => arg 1; ext i; whnf)
  have hsy := parB_symm u t
  refine Evx.bool (fun h2 => ?_) (fun h2 => ?_)
  · (conv => arg 1; ext i; whnf)
    refine Evx.call (parallel_ev u t huo hto) ?_
    (conv => arg 1; ext i; whnf)
    refine Evx.call (rParallel_ev t u ht hu) ?_
    (conv => arg 1; ext i; whnf)
    refine Evx.pure ?_
    rw [hsy, beq_self_eq_true]
  · rw [beq_self_eq_true] at h2; cases h2

theorem introLaw_ev (ts : List Tree) (hb : bulks ts < 2 ^ 21) : Ev pr 5 [.sl 3 (trees ts)] (.ret [.d (.bool true)]) := by
  have hlen := bulks_len ts
  have ho : ∀ (i : Nat) t, ts[i]? = some t → t.ok := by
    intro i t h; have := bulk_get h; unfold Tree.ok; omega
  have hil := introL_len ts (ts.length - 1)
  have e2 := rIntroduce_ev ts hb
  have heq : introR ts (ts.length - 1) = introL ts (ts.length - 1) := by
    by_cases h0 : ts.length = 0
    · rw [h0]; rfl
    · exact introR_eq ts _ (by omega)
  rw [heq] at e2
  have hmem : ∀ (i : Nat) l, (introL ts (ts.length - 1))[i]? = some l → l.length < 2 ^ 40 ∧ ∀ (j : Nat) t, l[j]? = some t → t.ok := by
    intro i l h
    have hm := List.mem_of_getElem? h
    have h0 : ts.length ≠ 0 := by
      intro h0; rw [h0] at hm; simp [introL] at hm
    have hbk := intro_bulk (n := ts.length - 1) (by omega) hm
    refine ⟨?_, fun j t ht => ?_⟩
    · have := bulks_len l; omega
    · have := bulk_get ht; unfold Tree.ok; omega
  apply Ev.enter; intro c; (conv => arg 1; ext i; whnf)
  refine Evx.call (few_ev ts 10 (by omega) ho) ?_
  (conv => arg 1; ext i; whnf)
  refine Evx.bool (fun h1 => ?_) (fun h1 => ?_)
  · (conv => arg 1; ext i; whnf)
    refine Evx.call awake39_ev ?_
    (conv => arg 1; ext i; whnf)
    exact Evx.pure rfl
  (conv => arg 1; ext i; whnf)
  refine Evx.call (introduce_ev ts hb) ?_
  (conv => arg 1; ext i; whnf)
  refine Evx.call e2 ?_
  (conv => arg 1; ext i; whnf)
  refine Evx.bool (fun h2 => ?_) (fun h2 => ?_)
  · exact absurd (hold_true.1 h2) (by simp)
  (conv => arg 1; ext i; whnf)
  generalize introL ts (ts.length - 1) = ls at *
  refine Evx.loop hint5 7 (α := Nat) (fun a => [some (.d (.sl 1 (lists ls))), some (.d (.sl 1 (lists ls))), some (.d (.int .i64 a))]) (fun a => []) 1 [] (fun a => ls.length - a) (fun a => _) ?_ 0 (fun _ => rfl) (fun _ => rfl) (fun _ => rfl) (fun _ => by kernel_rfl)
  intro a bx L ih; (conv => arg 1; ext i; whnf)
  refine Evx.bool (fun h3 => ?_) (fun h3 => ?_)
  · have h3 := hold_true.1 h3
    simp only [lists_len, decide_eq_true_eq] at h3
    obtain ⟨l, hl⟩ := get_some (l := ls) (i := a) (by omega)
    obtain ⟨h4, h5⟩ := hmem a l hl
    (conv => arg 1; ext i; whnf)
    refine Evx.idx (m := a) rfl (lists_get hl) ?_
    (conv => arg 1; ext i; whnf)
    refine Evx.idx (m := a) rfl (lists_get hl) ?_
    (conv => arg 1; ext i; whnf)
    refine Evx.call (sameAll_ev l l h4 h5) ?_
    rw [(sames_iff l l).2 rfl]
    (conv => arg 1; ext i; whnf)
    refine Evx.int (wrap_succ (n := a) (by omega)) ?_
    (conv => arg 1; ext i; whnf)
    exact ih (a + 1) _ (by omega) (fun _ => by kernel_rfl)
  · (conv => arg 1; ext i; whnf)
    refine Evx.call awake39_ev ?_
    (conv => arg 1; ext i; whnf)
    exact Evx.pure rfl

theorem parallelsLaw_ev (t np : Tree) (ht : t.bulk < 2 ^ 28) (hnp : np.bulk < 2 ^ 28) : Ev pr 9 [t.d, np.d] (.ret [.d (.bool true)]) := by
  have hto : t.ok := by unfold Tree.ok; omega
  have hno : np.ok := by unfold Tree.ok; omega
  have hwb := bulk_with t np
  have hwo : (t.withSubj np).ok := by unfold Tree.ok; omega
  have hao : (alsoT t np).ok := by unfold Tree.ok alsoT; simp only [Tree.bulk, bulks, List.length_nil]; omega
  have e1 := path_ev t hto
  unfold pathOut at e1
  generalize hn : t.plen = n at e1
  have aw : ∀ {s : Nat}, True := fun {_} => trivial
  apply Ev.enter; intro c; (conv => arg 1; ext i; whnf)
  refine Evx.call e1 ?_
  cases n with
  | zero =>
    have hs : t.subj = none := by
      cases hs : t.subj with
      | none => rfl
      | some s => exact absurd hn (subj_down t s hs).2
    rw [hs]
    (conv => arg 1; ext i; whnf)
    refine Evx.call functions_ev ?_
    (conv => arg 1; ext i; whnf)
    refine Evx.call (rCat_ev fs0 fs0_len np hno) ?_
    (conv => arg 1; ext i; whnf)
    refine Evx.call (sentence_ev t hto) ?_
    (conv => arg 1; ext i; whnf)
    refine Evx.bool (fun h2 => ?_) (fun h2 => ?_)
    · (conv => arg 1; ext i; whnf)
      refine Evx.call awake39_ev ?_
      (conv => arg 1; ext i; whnf)
      exact Evx.pure rfl
    · (conv => arg 1; ext i; whnf)
      refine Evx.call awake39_ev ?_
      (conv => arg 1; ext i; whnf)
      exact Evx.pure rfl
  | succ n =>
    (conv => arg 1; ext i; whnf)
    refine Evx.call functions_ev ?_
    (conv => arg 1; ext i; whnf)
    refine Evx.call (rCat_ev fs0 fs0_len np hno) ?_
    (conv => arg 1; ext i; whnf)
    refine Evx.call (sentence_ev t hto) ?_
    (conv => arg 1; ext i; whnf)
    refine Evx.bool (fun h2 => ?_) (fun h2 => ?_)
    · (conv => arg 1; ext i; whnf)
      refine Evx.call awake39_ev ?_
      (conv => arg 1; ext i; whnf)
      exact Evx.pure rfl
    cases hs : t.subj with
    | none =>
      (conv => arg 1; ext i; whnf)
      refine Evx.call awake39_ev ?_
      (conv => arg 1; ext i; whnf)
      exact Evx.pure rfl
    | some sb =>
      have hsb := subj_bulk t sb hs
      have hsbo : sb.ok := by unfold Tree.ok; omega
      (conv => arg 1; ext i; whnf)
      refine Evx.bool (fun h3 => ?_) (fun h3 => ?_)
      · (conv => arg 1; ext i; whnf)
        refine Evx.call awake39_ev ?_
        (conv => arg 1; ext i; whnf)
        exact Evx.pure rfl
      (conv => arg 1; ext i; whnf)
      refine Evx.bool (fun h4 => ?_) (fun h4 => ?_)
      · (conv => arg 1; ext i; whnf)
        refine Evx.call awake39_ev ?_
        (conv => arg 1; ext i; whnf)
        exact Evx.pure rfl
      (conv => arg 1; ext i; whnf)
      refine Evx.bool (fun h5 => ?_) (fun h5 => ?_)
      · (conv => arg 1; ext i; whnf)
        refine Evx.call awake39_ev ?_
        (conv => arg 1; ext i; whnf)
        exact Evx.pure rfl
      have h5 := seq_ne.1 h5
      (conv => arg 1; ext i; whnf)
      refine Evx.call (rWith_ev t sb np hto hs) ?_
      (conv => arg 1; ext i; whnf)
      refine Evx.call (sentence_ev (t.withSubj np) hwo) ?_
      (conv => arg 1; ext i; whnf)
      refine Evx.bool (fun h6 => ?_) (fun h6 => ?_)
      · (conv => arg 1; ext i; whnf)
        refine Evx.call awake39_ev ?_
        (conv => arg 1; ext i; whnf)
        exact Evx.pure rfl
      (conv => arg 1; ext i; whnf)
      have ea := sentence_ev (alsoT t np) hao
      have eb := expandE_ev (alsoT t np) hao
      have hAd : (alsoT t np).d = .agg [.str sAlso, .sl 1 [], .sl 3 [[.str t.fn, .sl 1 (ints t.vs), .sl 3 (trees t.ks)], [.str np.fn, .sl 1 (ints np.vs), .sl 3 (trees np.ks)]]] := by
        unfold alsoT; rw [d_node, trees_cons, trees_cons]; rfl
      rw [hAd] at ea eb
      refine Evx.call ea ?_
      (conv => arg 1; ext i; whnf)
      refine Evx.bool (fun h7 => ?_) (fun h7 => ?_)
      · (conv => arg 1; ext i; whnf)
        refine Evx.call awake39_ev ?_
        (conv => arg 1; ext i; whnf)
        exact Evx.pure rfl
      (conv => arg 1; ext i; whnf)
      have hd0 : t.depth = 0 := depth_zero (.inl h5)
      have hd1 : (alsoT t np).depth = 1 := by rw [alsoT_depth, hd0]
      have hs1 : (alsoT t np).subj = some sb := by
        rw [← hs]; exact depth_subj_kid rfl rfl
      have hex : remR [alsoT t np] false [] = (none, [t, t.withSubj np]) := by
        rw [remR_one, if_neg (fun h => by rw [hs1] at h; cases h.2), hd1]
        rfl
      rw [hex] at eb
      refine Evx.call eb ?_
      simp only [remOut]
      (conv => arg 1; ext i; whnf)
      refine Evx.call awake39_ev ?_
      (conv => arg 1; ext i; whnf)
      refine Evx.call (parallel_ev t (t.withSubj np) hto hwo) ?_
      (conv => arg 1; ext i; whnf)
      refine Evx.call (rSubject_ev t sb hto hs) ?_
      (conv => arg 1; ext i; whnf)
      refine Evx.call (same_ev sb np hsbo) ?_
      (conv => arg 1; ext i; whnf)
      have hpar : parB t (t.withSubj np) = !(sb.same np) := by
        unfold parB
        rw [hs, subj_with t np sb hs]
        dsimp only
        rw [(same_iff (t.withSubj np) (t.withSubj np)).2 rfl, Bool.and_true]
      rw [hpar]
      have hsa := sameAll_ev [t, t.withSubj np] [t, t.withSubj np] (by simp) (by
        intro i x hx
        cases i with
        | zero => cases hx; exact hto
        | succ i => cases i with
          | zero => cases hx; exact hwo
          | succ i => simp at hx)
      refine Evx.bool (fun h8 => ?_) (fun h8 => ?_)
      · (conv => arg 1; ext i; whnf)
        refine Evx.bool (fun h9 => ?_) (fun h9 => ?_)
        · (conv => arg 1; ext i; whnf)
          have hl : trees [t, t.withSubj np] = [[.str t.fn, .sl 1 (ints t.vs), .sl 3 (trees t.ks)], [.str (t.withSubj np).fn, .sl 1 (ints (t.withSubj np).vs), .sl 3 (trees (t.withSubj np).ks)]] := by
            rw [trees_cons, trees_cons]; rfl
          have hsa' : Ev pr 15 [.sl 3 (trees [t, t.withSubj np]), .sl 3 [[.str t.fn, .sl 1 (ints t.vs), .sl 3 (trees t.ks)], [.str (t.withSubj np).fn, .sl 1 (ints (t.withSubj np).vs), .sl 3 (trees (t.withSubj np).ks)]]] (.ret [.d (.bool (sames [t, t.withSubj np] [t, t.withSubj np]))]) := by
            rw [← hl]; exact hsa
          refine Evx.call hsa' ?_
          (conv => arg 1; ext i; whnf)
          refine Evx.pure ?_
          rw [(sames_iff _ _).2 rfl]
        · exact absurd (hold_false.1 h9) (by decide)
      · rw [beq_self_eq_true] at h8; cases h8
end
end Go.Proofs.Ytfkfcjdoebjlfaa
