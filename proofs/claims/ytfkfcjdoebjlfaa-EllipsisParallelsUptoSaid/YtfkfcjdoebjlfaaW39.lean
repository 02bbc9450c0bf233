/- Layers 32 and 39 walked: subjects, expansions. -/
import Derived.Test.YtfkfcjdoebjlfaaW31
import Derived.Test.YtfkfcjdoebjlfaaS39
namespace Go.Proofs.Ytfkfcjdoebjlfaa
open Go Go.Abs Go.Abs.Asks
set_option linter.unusedVariables false
set_option linter.unusedSimpArgs false
set_option linter.unusedSectionVars false
variable [Asks]

def zeroT : Tree := .node (ByteArray.mk #[]) [] []
def subjOut (o : Option Tree) : Out := match o with
  | some s => .ret [.d s.d, .d (.bool true)]
  | none => .ret [.d zeroT.d, .d (.bool false)]

theorem eclone_ev (t : Tree) (ht : t.ok) : Ev pr 40 [t.d] (.ret [.d t.d]) := by
  apply Ev.enter; intro c; (conv => arg 1; ext i; whnf)
  refine Evx.call (at_nil t ht) ?_
  (conv => arg 1; ext i; whnf)
  exact Evx.pure rfl

theorem etree_ev (f : ByteArray) (ts : List Tree) : Ev pr 41 [.str f, .sl 3 (trees ts)] (.ret [.d (Tree.node f [] ts).d]) := by
  apply Ev.enter; intro c; (conv => arg 1; ext i; whnf)
  exact Evx.pure rfl

theorem subject_ev (t : Tree) : Ev pr 39 [t.d] (subjOut t.subj) := by
  induction t using Tree.rec' with
  | _ t ih =>
    apply Ev.enter; intro c; (conv => arg 1; ext i; whnf)
    refine Evx.bool (fun h0 => ?_) (fun h0 => ?_)
    · (conv => arg 1; ext i; whnf)
      refine Evx.pure ?_
      have h0 := hold_true.1 h0
      simp only [trees_len, beq_iff_eq] at h0
      have : t.ks = [] := List.length_eq_zero_iff.1 (by omega)
      rw [subj_eq, this]; rfl
    · have h0 := hold_false.1 h0
      simp only [trees_len, beq_eq_false_iff_ne, ne_eq] at h0
      obtain ⟨k, hk⟩ := get_some (l := t.ks) (i := 0) (by omega)
      (conv => arg 1; ext i; whnf)
      refine Evx.bool (fun h => ?_) (fun g1 => ?_)
      · (conv => arg 1; ext i; whnf)
        have hf : frame4 t.fn = true := by have := seq_iff.1 h; rw [this]; decide
        refine Evx.idx (m := 0) rfl (trees_get hk) ?_
        (conv => arg 1; ext i; whnf)
        refine Evx.pure ?_
        rw [subj_eq, hk]; simp only [hf, if_true]; rfl
      (conv => arg 1; ext i; whnf)
      refine Evx.bool (fun h => ?_) (fun g2 => ?_)
      · (conv => arg 1; ext i; whnf)
        have hf : frame4 t.fn = true := by have := seq_iff.1 h; rw [this]; decide
        refine Evx.idx (m := 0) rfl (trees_get hk) ?_
        (conv => arg 1; ext i; whnf)
        refine Evx.pure ?_
        rw [subj_eq, hk]; simp only [hf, if_true]; rfl
      (conv => arg 1; ext i; whnf)
      refine Evx.bool (fun h => ?_) (fun g3 => ?_)
      · (conv => arg 1; ext i; whnf)
        have hf : frame4 t.fn = true := by have := seq_iff.1 h; rw [this]; decide
        refine Evx.idx (m := 0) rfl (trees_get hk) ?_
        (conv => arg 1; ext i; whnf)
        refine Evx.pure ?_
        rw [subj_eq, hk]; simp only [hf, if_true]; rfl
      (conv => arg 1; ext i; whnf)
      refine Evx.bool (fun h => ?_) (fun g4 => ?_)
      · (conv => arg 1; ext i; whnf)
        have hf : frame4 t.fn = true := by have := seq_iff.1 h; rw [this]; decide
        refine Evx.idx (m := 0) rfl (trees_get hk) ?_
        (conv => arg 1; ext i; whnf)
        refine Evx.pure ?_
        rw [subj_eq, hk]; simp only [hf, if_true]; rfl
      have hf : frame4 t.fn = false := by
        simp only [frame4, Bool.or_eq_false_iff, decide_eq_false_iff_not]
        exact ⟨⟨⟨seq_ne.1 g1, seq_ne.1 g2⟩, seq_ne.1 g3⟩, seq_ne.1 g4⟩
      (conv => arg 1; ext i; whnf)
      refine Evx.bool (fun h => ?_) (fun g5 => ?_)
      · (conv => arg 1; ext i; whnf)
        have hw : wrap5 t.fn = true := by have := seq_iff.1 h; rw [this]; decide
        refine Evx.idx (m := 0) rfl (trees_get hk) ?_
        (conv => arg 1; ext i; whnf)
        refine Evx.call (ih 0 k hk) ?_
        rw [subj_eq t, hk]; simp only [hf, hw, if_true, Bool.false_eq_true, if_false]
        cases k.subj with
        | none => (conv => arg 1; ext i; whnf); exact Evx.pure rfl
        | some s => (conv => arg 1; ext i; whnf); exact Evx.pure rfl
      (conv => arg 1; ext i; whnf)
      refine Evx.bool (fun h => ?_) (fun g6 => ?_)
      · (conv => arg 1; ext i; whnf)
        have hw : wrap5 t.fn = true := by have := seq_iff.1 h; rw [this]; decide
        refine Evx.idx (m := 0) rfl (trees_get hk) ?_
        (conv => arg 1; ext i; whnf)
        refine Evx.call (ih 0 k hk) ?_
        rw [subj_eq t, hk]; simp only [hf, hw, if_true, Bool.false_eq_true, if_false]
        cases k.subj with
        | none => (conv => arg 1; ext i; whnf); exact Evx.pure rfl
        | some s => (conv => arg 1; ext i; whnf); exact Evx.pure rfl
      (conv => arg 1; ext i; whnf)
      refine Evx.bool (fun h => ?_) (fun g7 => ?_)
      · (conv => arg 1; ext i; whnf)
        have hw : wrap5 t.fn = true := by have := seq_iff.1 h; rw [this]; decide
        refine Evx.idx (m := 0) rfl (trees_get hk) ?_
        (conv => arg 1; ext i; whnf)
        refine Evx.call (ih 0 k hk) ?_
        rw [subj_eq t, hk]; simp only [hf, hw, if_true, Bool.false_eq_true, if_false]
        cases k.subj with
        | none => (conv => arg 1; ext i; whnf); exact Evx.pure rfl
        | some s => (conv => arg 1; ext i; whnf); exact Evx.pure rfl
      (conv => arg 1; ext i; whnf)
      refine Evx.bool (fun h => ?_) (fun g8 => ?_)
      · (conv => arg 1; ext i; whnf)
        have hw : wrap5 t.fn = true := by have := seq_iff.1 h; rw [this]; decide
        refine Evx.idx (m := 0) rfl (trees_get hk) ?_
        (conv => arg 1; ext i; whnf)
        refine Evx.call (ih 0 k hk) ?_
        rw [subj_eq t, hk]; simp only [hf, hw, if_true, Bool.false_eq_true, if_false]
        cases k.subj with
        | none => (conv => arg 1; ext i; whnf); exact Evx.pure rfl
        | some s => (conv => arg 1; ext i; whnf); exact Evx.pure rfl
      (conv => arg 1; ext i; whnf)
      refine Evx.bool (fun h => ?_) (fun g9 => ?_)
      · (conv => arg 1; ext i; whnf)
        have hw : wrap5 t.fn = true := by have := seq_iff.1 h; rw [this]; decide
        refine Evx.idx (m := 0) rfl (trees_get hk) ?_
        (conv => arg 1; ext i; whnf)
        refine Evx.call (ih 0 k hk) ?_
        rw [subj_eq t, hk]; simp only [hf, hw, if_true, Bool.false_eq_true, if_false]
        cases k.subj with
        | none => (conv => arg 1; ext i; whnf); exact Evx.pure rfl
        | some s => (conv => arg 1; ext i; whnf); exact Evx.pure rfl
      (conv => arg 1; ext i; whnf)
      have hw : wrap5 t.fn = false := by
        simp only [wrap5, Bool.or_eq_false_iff, decide_eq_false_iff_not]
        exact ⟨⟨⟨⟨seq_ne.1 g5, seq_ne.1 g6⟩, seq_ne.1 g7⟩, seq_ne.1 g8⟩, seq_ne.1 g9⟩
      refine Evx.pure ?_
      rw [subj_eq t, hk]; simp only [hf, hw, Bool.false_eq_true, if_false]; rfl

def withOut (t np : Tree) : Out := match t.subj with
  | some _ => .ret [.d (t.withSubj np).d, .d (.bool true)]
  | none => .ret [.d zeroT.d, .d (.bool false)]

theorem subj_kid {t s : Tree} (h : t.subj = some s) : ∃ k, t.ks[0]? = some k := by
  rw [subj_eq] at h
  cases hk : t.ks[0]? with
  | none => rw [hk] at h; cases h
  | some k => exact ⟨k, rfl⟩
theorem subj_wrap {t s k : Tree} (h : t.subj = some s) (hk : t.ks[0]? = some k) (hw : wrap5 t.fn = true) : k.subj = some s := by
  rw [subj_eq, hk] at h
  have hf : frame4 t.fn = false := by
    cases hf : frame4 t.fn with
    | false => rfl
    | true => rw [frame_wrap hf] at hw; cases hw
  simpa [hf, hw] using h

theorem withSubject_ev (t : Tree) : ∀ np, t.ok → Ev pr 44 [t.d, np.d] (withOut t np) := by
  induction t using Tree.rec' with
  | _ t ih =>
    intro np ht
    have hl := ht.ks
    apply Ev.enter; intro c; (conv => arg 1; ext i; whnf)
    refine Evx.call (subject_ev t) ?_
    unfold withOut
    cases hs : t.subj with
    | none =>
      (conv => arg 1; ext i; whnf)
      exact Evx.pure rfl
    | some s =>
      obtain ⟨k, hk⟩ := subj_kid hs
      (conv => arg 1; ext i; whnf)
      refine Evx.bool (fun h => ?_) (fun g5 => ?_)
      · (conv => arg 1; ext i; whnf)
        have hw : wrap5 t.fn = true := by have := seq_iff.1 h; rw [this]; decide
        refine Evx.idx (m := 0) rfl (trees_get hk) ?_
        (conv => arg 1; ext i; whnf)
        have hks := subj_wrap hs hk hw
        refine Evx.call (ih 0 k hk np (ht.kid hk)) ?_
        simp only [withOut, hks]
        (conv => arg 1; ext i; whnf)
        refine Evx.mustP (by have := List.getElem?_eq_some_iff.1 hk; obtain ⟨h, _⟩ := this; simp only [Option.getD, trees_len]; omega) ?_
        (conv => arg 1; ext i; whnf)
        refine Evx.appd (m := (1 + ((trees t.ks).drop 1).length) * 65) (by simp [Option.getD]; rfl) (by rw [List.length_drop, trees_len]; omega) ?_
        (conv => arg 1; ext i; whnf)
        refine Evx.pure ?_
        rw [withSubj_eq np t k hk]
        simp only [hw, if_true, Bool.false_eq_true, if_false, d_node, trees_cons, trees_drop, Option.getD, take_all]
        rfl
      (conv => arg 1; ext i; whnf)
      refine Evx.bool (fun h => ?_) (fun g6 => ?_)
      · (conv => arg 1; ext i; whnf)
        have hw : wrap5 t.fn = true := by have := seq_iff.1 h; rw [this]; decide
        refine Evx.idx (m := 0) rfl (trees_get hk) ?_
        (conv => arg 1; ext i; whnf)
        have hks := subj_wrap hs hk hw
        refine Evx.call (ih 0 k hk np (ht.kid hk)) ?_
        simp only [withOut, hks]
        (conv => arg 1; ext i; whnf)
        refine Evx.mustP (by have := List.getElem?_eq_some_iff.1 hk; obtain ⟨h, _⟩ := this; simp only [Option.getD, trees_len]; omega) ?_
        (conv => arg 1; ext i; whnf)
        refine Evx.appd (m := (1 + ((trees t.ks).drop 1).length) * 65) (by simp [Option.getD]; rfl) (by rw [List.length_drop, trees_len]; omega) ?_
        (conv => arg 1; ext i; whnf)
        refine Evx.pure ?_
        rw [withSubj_eq np t k hk]
        simp only [hw, if_true, Bool.false_eq_true, if_false, d_node, trees_cons, trees_drop, Option.getD, take_all]
        rfl
      (conv => arg 1; ext i; whnf)
      refine Evx.bool (fun h => ?_) (fun g7 => ?_)
      · (conv => arg 1; ext i; whnf)
        have hw : wrap5 t.fn = true := by have := seq_iff.1 h; rw [this]; decide
        refine Evx.idx (m := 0) rfl (trees_get hk) ?_
        (conv => arg 1; ext i; whnf)
        have hks := subj_wrap hs hk hw
        refine Evx.call (ih 0 k hk np (ht.kid hk)) ?_
        simp only [withOut, hks]
        (conv => arg 1; ext i; whnf)
        refine Evx.mustP (by have := List.getElem?_eq_some_iff.1 hk; obtain ⟨h, _⟩ := this; simp only [Option.getD, trees_len]; omega) ?_
        (conv => arg 1; ext i; whnf)
        refine Evx.appd (m := (1 + ((trees t.ks).drop 1).length) * 65) (by simp [Option.getD]; rfl) (by rw [List.length_drop, trees_len]; omega) ?_
        (conv => arg 1; ext i; whnf)
        refine Evx.pure ?_
        rw [withSubj_eq np t k hk]
        simp only [hw, if_true, Bool.false_eq_true, if_false, d_node, trees_cons, trees_drop, Option.getD, take_all]
        rfl
      (conv => arg 1; ext i; whnf)
      refine Evx.bool (fun h => ?_) (fun g8 => ?_)
      · (conv => arg 1; ext i; whnf)
        have hw : wrap5 t.fn = true := by have := seq_iff.1 h; rw [this]; decide
        refine Evx.idx (m := 0) rfl (trees_get hk) ?_
        (conv => arg 1; ext i; whnf)
        have hks := subj_wrap hs hk hw
        refine Evx.call (ih 0 k hk np (ht.kid hk)) ?_
        simp only [withOut, hks]
        (conv => arg 1; ext i; whnf)
        refine Evx.mustP (by have := List.getElem?_eq_some_iff.1 hk; obtain ⟨h, _⟩ := this; simp only [Option.getD, trees_len]; omega) ?_
        (conv => arg 1; ext i; whnf)
        refine Evx.appd (m := (1 + ((trees t.ks).drop 1).length) * 65) (by simp [Option.getD]; rfl) (by rw [List.length_drop, trees_len]; omega) ?_
        (conv => arg 1; ext i; whnf)
        refine Evx.pure ?_
        rw [withSubj_eq np t k hk]
        simp only [hw, if_true, Bool.false_eq_true, if_false, d_node, trees_cons, trees_drop, Option.getD, take_all]
        rfl
      (conv => arg 1; ext i; whnf)
      refine Evx.bool (fun h => ?_) (fun g9 => ?_)
      · (conv => arg 1; ext i; whnf)
        have hw : wrap5 t.fn = true := by have := seq_iff.1 h; rw [this]; decide
        refine Evx.idx (m := 0) rfl (trees_get hk) ?_
        (conv => arg 1; ext i; whnf)
        have hks := subj_wrap hs hk hw
        refine Evx.call (ih 0 k hk np (ht.kid hk)) ?_
        simp only [withOut, hks]
        (conv => arg 1; ext i; whnf)
        refine Evx.mustP (by have := List.getElem?_eq_some_iff.1 hk; obtain ⟨h, _⟩ := this; simp only [Option.getD, trees_len]; omega) ?_
        (conv => arg 1; ext i; whnf)
        refine Evx.appd (m := (1 + ((trees t.ks).drop 1).length) * 65) (by simp [Option.getD]; rfl) (by rw [List.length_drop, trees_len]; omega) ?_
        (conv => arg 1; ext i; whnf)
        refine Evx.pure ?_
        rw [withSubj_eq np t k hk]
        simp only [hw, if_true, Bool.false_eq_true, if_false, d_node, trees_cons, trees_drop, Option.getD, take_all]
        rfl
      (conv => arg 1; ext i; whnf)
      have hw : wrap5 t.fn = false := by
        simp only [wrap5, Bool.or_eq_false_iff, decide_eq_false_iff_not]
        exact ⟨⟨⟨⟨seq_ne.1 g5, seq_ne.1 g6⟩, seq_ne.1 g7⟩, seq_ne.1 g8⟩, seq_ne.1 g9⟩
      refine Evx.mustP (by have := List.getElem?_eq_some_iff.1 hk; obtain ⟨h, _⟩ := this; simp only [Option.getD, trees_len]; omega) ?_
      (conv => arg 1; ext i; whnf)
      refine Evx.appd (m := (1 + ((trees t.ks).drop 1).length) * 65) (by simp [Option.getD]; rfl) (by rw [List.length_drop, trees_len]; omega) ?_
      (conv => arg 1; ext i; whnf)
      refine Evx.pure ?_
      rw [withSubj_eq np t k hk]
      simp only [hw, if_true, Bool.false_eq_true, if_false, d_node, trees_cons, trees_drop, Option.getD, take_all]
      rfl

theorem expand_ev : ∀ (d : Nat) (t : Tree), t.depth = d → t.ok → (d = 0 ∨ t.subj.isSome = true) → Ev pr 38 [t.d] (.ret [.own (.res 0) 3 (trees (exL d t)), .d (.int .i64 0)])
  | 0, t, hd, ht, _ => by
    have fin : Ev pr 40 [t.d] (.ret [.d t.d]) := eclone_ev t ht
    apply Ev.enter; intro c; (conv => arg 1; ext i; whnf)
    refine Evx.bool (fun h1 => ?_) (fun h1 => ?_)
    · (conv => arg 1; ext i; whnf)
      refine Evx.call fin ?_
      (conv => arg 1; ext i; whnf)
      refine Evx.pure ?_
      rw [show exL 0 t = [t] from rfl, trees_cons]; rfl
    · (conv => arg 1; ext i; whnf)
      refine Evx.bool (fun h2 => ?_) (fun h2 => ?_)
      · (conv => arg 1; ext i; whnf)
        refine Evx.call fin ?_
        (conv => arg 1; ext i; whnf)
        refine Evx.pure ?_
        rw [show exL 0 t = [t] from rfl, trees_cons]; rfl
      · exfalso
        simp only [Bool.not_eq_false'] at h1
        have h2 := hold_false.1 h2
        simp only [trees_len, bne_eq_false_iff_eq] at h2
        obtain ⟨k, np, _, h⟩ := depth_kids (seq_iff.1 h1) (by omega)
        omega
  | d + 1, t, hd, ht, hs => by
    obtain ⟨h1, k, np, hk, hkd⟩ := depth_succ hd
    have hks : k.subj.isSome = true := by
      rcases hs with hs | hs
      · cases hs
      · rwa [depth_subj_kid h1 hk] at hs
    obtain ⟨s, hsk⟩ := Option.isSome_iff_exists.1 hks
    have k0 : t.ks[0]? = some k := by rw [hk]; rfl
    have k1 : t.ks[1]? = some np := by rw [hk]; rfl
    have hko := ht.kid k0
    have huo : (k.withSubj np).ok := by
      have := bulk_with k np
      unfold Tree.ok at ht ⊢
      rw [t.bulk_eq, hk] at ht; simp only [bulks] at ht; omega
    have e1 := expand_ev d k hkd hko (.inr hks)
    have e2 := expand_ev d (k.withSubj np) (by rw [depth_with k np s hsk]; exact hkd) huo (.inr (by rw [subj_with k np s hsk]; rfl))
    have l1 := exL_len d k hkd (.inr hks)
    have l2 := exL_len d (k.withSubj np) (by rw [depth_with k np s hsk]; exact hkd) (.inr (by rw [subj_with k np s hsk]; rfl))
    have l3 := exN_le d
    apply Ev.enter; intro c; (conv => arg 1; ext i; whnf)
    refine Evx.bool (fun h2 => ?_) (fun _ => ?_)
    · simp only [Bool.not_eq_true'] at h2
      exact absurd h1 (seq_ne.1 h2)
    (conv => arg 1; ext i; whnf)
    refine Evx.bool (fun h2 => ?_) (fun _ => ?_)
    · have h2 := hold_true.1 h2
      simp only [trees_len, hk, bne_iff_ne, ne_eq] at h2
      exact absurd rfl h2
    (conv => arg 1; ext i; whnf)
    refine Evx.idx (m := 0) rfl (trees_get k0) ?_
    (conv => arg 1; ext i; whnf)
    refine Evx.idx (m := 1) rfl (trees_get k1) ?_
    (conv => arg 1; ext i; whnf)
    refine Evx.call (withSubject_ev k np hko) ?_
    simp only [withOut, hsk]
    (conv => arg 1; ext i; whnf)
    refine Evx.idx (m := 0) rfl (trees_get k0) ?_
    (conv => arg 1; ext i; whnf)
    refine Evx.call e1 ?_
    (conv => arg 1; ext i; whnf)
    refine Evx.bool (fun h2 => ?_) (fun _ => ?_)
    · exact absurd (hold_true.1 h2) (by decide)
    (conv => arg 1; ext i; whnf)
    refine Evx.bool (fun h2 => ?_) (fun h2 => ?_)
    · have h2 := hold_true.1 h2
      simp only [trees_len, gt_iff_lt, decide_eq_true_eq] at h2
      (conv => arg 1; ext i; whnf)
      refine Evx.pure ?_
      rw [show exL (d + 1) t = exL d k by simp only [exL, hk]; rw [if_pos (by omega)]]
      rfl
    · have h2 := hold_false.1 h2
      simp only [trees_len, gt_iff_lt, decide_eq_false_iff_not] at h2
      (conv => arg 1; ext i; whnf)
      refine Evx.call e2 ?_
      (conv => arg 1; ext i; whnf)
      refine Evx.appd rfl (m := ((trees (exL d k)).length + (trees (exL d (k.withSubj np))).length) * 65) (by rw [trees_len, trees_len]; omega) ?_
      (conv => arg 1; ext i; whnf)
      refine Evx.pure ?_
      rw [show exL (d + 1) t = exL d k ++ exL d (k.withSubj np) by simp only [exL, hk]; rw [if_neg (by omega)], trees_app]
      rfl

theorem expand_err (t : Tree) (hd : t.depth ≠ 0) (hs : t.subj = none) (ht : t.ok) : Ev pr 38 [t.d] (.ret [.d .nils, .d (.int .i64 6)]) := by
  obtain ⟨d, hd⟩ := Nat.exists_eq_succ_of_ne_zero hd
  obtain ⟨h1, k, np, hk, hkd⟩ := depth_succ hd
  have hks : k.subj = none := by rwa [depth_subj_kid h1 hk] at hs
  have k0 : t.ks[0]? = some k := by rw [hk]; rfl
  have k1 : t.ks[1]? = some np := by rw [hk]; rfl
  apply Ev.enter; intro c; (conv => arg 1; ext i; whnf)
  refine Evx.bool (fun h2 => ?_) (fun _ => ?_)
  · simp only [Bool.not_eq_true'] at h2
    exact absurd h1 (seq_ne.1 h2)
  (conv => arg 1; ext i; whnf)
  refine Evx.bool (fun h2 => ?_) (fun _ => ?_)
  · have h2 := hold_true.1 h2
    simp only [trees_len, hk, bne_iff_ne, ne_eq] at h2
    exact absurd rfl h2
  (conv => arg 1; ext i; whnf)
  refine Evx.idx (m := 0) rfl (trees_get k0) ?_
  (conv => arg 1; ext i; whnf)
  refine Evx.idx (m := 1) rfl (trees_get k1) ?_
  (conv => arg 1; ext i; whnf)
  refine Evx.call (withSubject_ev k np (ht.kid k0)) ?_
  simp only [withOut, hks]
  (conv => arg 1; ext i; whnf)
  exact Evx.pure rfl

def remOut (r : Option Int × List Tree) : Out := match r with
  | (some e, _) => .ret [.d .nils, .d (.int .i64 e)]
  | (none, out) => .ret [.own (.res 0) 3 (trees out), .d (.int .i64 0)]

theorem remove_ev (ts : List Tree) (hl : ts.length < 2 ^ 40) (ho : ∀ (i : Nat) t, ts[i]? = some t → t.ok) : Ev pr 16 [.sl 3 (trees ts)] (remOut (remR ts false [])) := by
  apply Ev.enter; intro c; (conv => arg 1; ext i; whnf)
  refine (Evx.loop hint16 4 (α := Nat × Bool × { out : List Tree // out.length ≤ 256 }) (fun a => [some (.own (.tmp 1 4 0) 3 (trees a.2.2.1)), some (.d (.bool a.2.1)), some (.d (.sl 3 (trees ts))), some (.d (.int .i64 (trees ts).length)), some (.d (.int .i64 a.1))]) (fun a => []) 1 [] (fun a => ts.length - a.1) (fun a => remOut (remR (ts.drop a.1) a.2.1 a.2.2.1)) ?_ (0, false, ⟨[], by simp⟩) (fun _ => rfl) (fun _ => rfl) (fun _ => rfl) (fun _ => by kernel_rfl)).to rfl
  rintro ⟨a, over, out, hout⟩ bx L ih; (conv => arg 1; ext i; whnf)
  refine Evx.bool (fun h2 => ?_) (fun h2 => ?_)
  · have h2 := hold_true.1 h2
    simp only [trees_len, decide_eq_true_eq] at h2
    obtain ⟨x, hx⟩ := get_some (l := ts) (i := a) (by omega)
    (conv => arg 1; ext i; whnf)
    refine Evx.idx rfl (trees_get hx) ?_
    (conv => arg 1; ext i; whnf)
    rw [drop_cons hx]
    have hxo := ho a x hx
    by_cases hb : x.depth ≠ 0 ∧ x.subj = none
    · refine Evx.call (expand_err x hb.1 hb.2 hxo) ?_
      (conv => arg 1; ext i; whnf)
      refine Evx.bool (fun h2 => ?_) (fun h2 => ?_)
      · (conv => arg 1; ext i; whnf)
        refine Evx.pure ?_
        simp only [remR, if_pos hb]
        rfl
      · exact absurd (hold_false.1 h2) (by decide)
    · have hb' : x.depth = 0 ∨ x.subj.isSome = true := by
        by_cases h0 : x.depth = 0
        · exact .inl h0
        · right
          cases hs : x.subj with
          | none => exact absurd ⟨h0, hs⟩ hb
          | some _ => rfl
      have hlen := exL_len x.depth x rfl hb'
      have hle := exN_le x.depth
      refine Evx.call (expand_ev x.depth x rfl hxo hb') ?_
      simp only [remR, if_neg hb]
      (conv => arg 1; ext i; whnf)
      refine Evx.bool (fun h2 => ?_) (fun h2 => ?_)
      · exact absurd (hold_true.1 h2) (by decide)
      (conv => arg 1; ext i; whnf)
      refine Evx.bool (fun h3 => ?_) (fun h3 => ?_)
      · have h3 := hold_true.1 h3
        simp only [trees_len, gt_iff_lt, decide_eq_true_eq] at h3
        (conv => arg 1; ext i; whnf)
        refine Evx.pure ?_
        rw [if_pos (by omega)]
        rfl
      · have h3 := hold_false.1 h3
        simp only [trees_len, gt_iff_lt, decide_eq_false_iff_not] at h3
        rw [if_neg (by omega)]
        (conv => arg 1; ext i; whnf)
        refine Evx.bool (fun h4 => ?_) (fun h4 => ?_)
        · subst h4
          rw [if_pos (.inl rfl)]
          (conv => arg 1; ext i; whnf)
          refine Evx.int (wrap_succ (by omega)) ?_
          (conv => arg 1; ext i; whnf)
          exact ih (a + 1, true, ⟨out, hout⟩) _ (by dsimp only; omega) (fun _ => by kernel_rfl)
        · subst h4
          (conv => arg 1; ext i; whnf)
          refine Evx.int (n' := ((out.length + (exL x.depth x).length : Nat) : Int)) (by rw [wrap_small] <;> simp only [trees_len] <;> omega) ?_
          (conv => arg 1; ext i; whnf)
          refine Evx.bool (fun h5 => ?_) (fun h5 => ?_)
          · have h5r := h5
            have h5 := hold_true.1 h5
            simp only [gt_iff_lt, decide_eq_true_eq] at h5
            rw [if_pos (.inr (by omega))]
            (conv => arg 1; ext i; whnf)
            refine Evx.int (wrap_succ (by omega)) ?_
            (conv => arg 1; ext i; whnf)
            exact ih (a + 1, true, ⟨out, hout⟩) _ (by dsimp only; omega) (fun i => by rw [h5r]; kernel_rfl)
          · have h5r := h5
            have h5 := hold_false.1 h5
            simp only [gt_iff_lt, decide_eq_false_iff_not] at h5
            rw [if_neg (by rintro (h | h); cases h; omega)]
            (conv => arg 1; ext i; whnf)
            refine Evx.appd rfl (m := ((trees out).length + (trees (exL x.depth x)).length) * 65) (by rw [trees_len, trees_len]; omega) ?_
            (conv => arg 1; ext i; whnf)
            refine Evx.int (wrap_succ (by omega)) ?_
            (conv => arg 1; ext i; whnf)
            refine ih (a + 1, false, ⟨out ++ exL x.depth x, by rw [List.length_append]; omega⟩) _ (by dsimp only; omega) ?_
            intro i
            rw [h5r]
            dsimp only
            rw [trees_app]
            kernel_rfl
  · have h2 := hold_false.1 h2
    simp only [trees_len, decide_eq_false_iff_not] at h2
    rw [List.drop_eq_nil_of_le (by omega)]
    (conv => arg 1; ext i; whnf)
    refine Evx.bool (fun h3 => ?_) (fun h3 => ?_)
    · subst h3
      (conv => arg 1; ext i; whnf)
      exact Evx.pure rfl
    · subst h3
      (conv => arg 1; ext i; whnf)
      exact Evx.pure rfl

theorem expandE_ev (t : Tree) (ht : t.ok) : Ev pr 13 [t.d] (remOut (remR [t] false [])) := by
  apply Ev.enter; intro c; (conv => arg 1; ext i; whnf)
  have e := remove_ev [t] (by simp) (by intro i u hu; cases i with
    | zero => cases hu; exact ht
    | succ i => simp at hu)
  rw [trees_cons] at e
  refine Evx.call e ?_
  cases hr : remR [t] false [] with
  | mk e out =>
    cases e with
    | none => (conv => arg 1; ext i; whnf); exact Evx.pure rfl
    | some e => (conv => arg 1; ext i; whnf); exact Evx.pure rfl
end Go.Proofs.Ytfkfcjdoebjlfaa
