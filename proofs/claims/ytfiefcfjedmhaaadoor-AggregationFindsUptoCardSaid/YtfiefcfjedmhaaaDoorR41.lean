/- Layer 41: the reference of Split, walked. -/
import Derived.Test.YtfiefcfjedmhaaaDoorW41
namespace Go.Proofs.YtfiefcfjedmhaaaDoor
open Go Go.Abs Go.Abs.Asks
set_option linter.unusedVariables false
set_option linter.unusedSimpArgs false
set_option linter.unusedSectionVars false
variable [Asks]

theorem again_d (t a b : Tree) : (againT t a b).d = .agg [.str t.fn, .sl 1 (ints t.vs), .sl 3 [[.str a.fn, .sl 1 (ints a.vs), .sl 3 (trees a.ks)], [.str b.fn, .sl 1 (ints b.vs), .sl 3 (trees b.ks)]]] := by
  unfold againT; rw [d_node, trees_cons, trees_cons]; rfl
theorem rwith_ev (t s v : Tree) (ht : t.ok) : Ev pr 40 [t.d, s.d, v.d] (.ret [.d (againT t s v).d]) := by
  have hv := ht.vs
  rw [again_d]
  apply Ev.enter; intro c; (conv => arg 1; ext i; whnf)
  refine Evx.appd rfl (m := (0 + (ints t.vs).length) * 9) (by rw [ints_len]; omega) ?_
  (conv => arg 1; ext i; whnf)
  exact Evx.pure rfl

theorem sq_le {t : Tree} (h : t.size ≤ 2 ^ 15) : t.size * t.size ≤ 2 ^ 30 := Nat.le_trans (Nat.mul_le_mul h h) (by decide)
set_option maxRecDepth 4000 in
theorem rSplit_ev : ∀ (n : Nat) (t : Tree), t.size ≤ n → t.bulk < 2 ^ 28 → t.size ≤ 2 ^ 15 → Ev pr 23 [t.d] (.ret [.own (.res 0) 3 (trees (splitF n t))])
  | 0, t, h, _, _ => by have := size_pos t; omega
  | n + 1, t, hN, hb, hs => by
    have ht : t.ok := by unfold Tree.ok; omega
    have e1 := rFrame_ev t
    have erw := rwrapper_ev t
    have l0 := split_len (n + 1) t hN
    have l2 : t.size * t.size ≤ 2 ^ 30 := sq_le hs
    apply Ev.enter; intro c; (conv => arg 1; ext i; whnf)
    cases hf : frameT t with
    | none =>
      rw [hf] at e1
      have h2 : twoT t = none := twoT_none (by rw [hf]; intro s p e; cases e)
      refine Evx.call e1 ?_
      (conv => arg 1; ext i; whnf)
      cases hw : wrapT t with
      | none =>
        rw [hw] at erw
        rw [splitF_one h2 hw]
        refine Evx.call erw ?_
        (conv => arg 1; ext i; whnf)
        refine Evx.pure ?_
        rw [trees_cons]; rfl
      | some k =>
        rw [hw] at erw
        rw [splitF_wrap h2 hw] at l0 ⊢
        rw [List.length_map] at l0
        obtain ⟨w1, w2⟩ := wrapT_some hw
        have k0 : t.ks[0]? = some k := by rw [w2]; rfl
        have hk1 := size_one w2
        have hk2 := bulk_one w2
        have hpb := split_bulk n k (by omega)
        have ek := rSplit_ev n k (by omega) (by omega) (by omega)
        refine Evx.call erw ?_
        (conv => arg 1; ext i; whnf)
        refine Evx.idx (m := 0) rfl (trees_get k0) ?_
        (conv => arg 1; ext i; whnf)
        refine Evx.call ek ?_
        generalize splitF n k = ps at *
        (conv => arg 1; ext i; whnf)
        refine (Evx.loop hint23 9 (α := { j : Nat // j ≤ ps.length }) (fun j => [some (.ptr 1 1 0), some (.own (.tmp 1 7 0) 3 (trees ((ps.take j.1).map (wrapN t)))), some (.d (.sl 3 (trees ps))), some (.d (.int .i64 (trees ps).length)), some (.d (.int .i64 j.1))]) (fun _ => [some (treeBox t)]) 1 [] (fun j => ps.length - j.1) (fun j => .ret [.own (.res 0) 3 (trees (ps.map (wrapN t)))]) ?_ ⟨0, Nat.zero_le _⟩ (fun _ => rfl) (fun _ => rfl) (fun _ => rfl) (fun _ => by kernel_rfl)).to rfl
        rintro ⟨j, hj⟩ bx L ih
        (conv => arg 1; ext i; whnf)
        refine Evx.bool (fun h3 => ?_) (fun h3 => ?_)
        · have h3 := hold_true.1 h3
          simp only [trees_len, decide_eq_true_eq] at h3
          obtain ⟨m, hm⟩ := get_some (l := ps) (i := j) (by omega)
          (conv => arg 1; ext i; whnf)
          refine Evx.idx (m := j) rfl (trees_get hm) ?_
          (conv => arg 1; ext i; whnf)
          refine Evx.call (rwrap_ev t m ht) ?_
          (conv => arg 1; ext i; whnf)
          refine Evx.appd rfl (m := ((trees ((ps.take j).map (wrapN t))).length + 1) * 65) (by rw [trees_len, List.length_map, List.length_take]; omega) ?_
          (conv => arg 1; ext i; whnf)
          refine Evx.int (wrap_succ (n := j) (by omega)) ?_
          (conv => arg 1; ext i; whnf)
          have hq : trees ((ps.take (j + 1)).map (wrapN t)) = trees ((ps.take j).map (wrapN t)) ++ [(wrapN t m).cells] := by
            rw [take_succ' hm, List.map_append, trees_app]; rfl
          refine ih ⟨j + 1, by omega⟩ _ (by dsimp only; omega) ?_
          intro q
          dsimp only
          rw [hq]
          kernel_rfl
        · have h3 := hold_false.1 h3
          simp only [trees_len, decide_eq_false_iff_not] at h3
          (conv => arg 1; ext i; whnf)
          refine Evx.pure ?_
          have hq : ps.take j = ps := List.take_of_length_le (by omega)
          dsimp only
          rw [hq]
          rfl
    | some q =>
      obtain ⟨a, b⟩ := q
      obtain ⟨f1, f2⟩ := frameT_some hf
      have hw : wrapT t = none := wrapT_none (.inl (frame_wrap4 f1))
      rw [hf] at e1
      rw [hw] at erw
      refine Evx.call e1 ?_
      (conv => arg 1; ext i; whnf)
      refine Evx.bool (fun h3 => ?_) (fun h3 => ?_)
      · have e3 := seq_iff.1 h3
        (conv => arg 1; ext i; whnf)
        refine Evx.bool (fun h4 => ?_) (fun h4 => ?_)
        · have h4 := hold_true.1 h4
          simp only [trees_len, beq_iff_eq] at h4
          obtain ⟨x, y, hxy⟩ := two_of (ks := a.ks) (by omega)
          have h2 := twoT_both hf e3 hxy
          have hl2 := split_len (n + 1) t hN
          rw [splitF_two h2] at hl2 ⊢
          rw [List.length_append] at hl2
          obtain ⟨l1, l2, l3, l4⟩ := two_less h2
          (conv => arg 1; ext i; whnf)
          refine Evx.idx (m := 0) rfl (trees_get (ts := a.ks) (i := 0) (t := x) (by rw [hxy]; rfl)) ?_
          (conv => arg 1; ext i; whnf)
          refine Evx.call (rwith_ev t x b ht) ?_
          (conv => arg 1; ext i; whnf)
          refine Evx.call (rSplit_ev n (againT t x b) (by omega) (by omega) (by omega)) ?_
          (conv => arg 1; ext i; whnf)
          refine Evx.idx (m := 1) rfl (trees_get (ts := a.ks) (i := 1) (t := y) (by rw [hxy]; rfl)) ?_
          (conv => arg 1; ext i; whnf)
          refine Evx.call (rwith_ev t y b ht) ?_
          (conv => arg 1; ext i; whnf)
          refine Evx.call (rSplit_ev n (againT t y b) (by omega) (by omega) (by omega)) ?_
          (conv => arg 1; ext i; whnf)
          refine Evx.appd (by rw [trees_len, trees_len]; rfl) (m := ((splitF n (againT t x b)).length + (splitF n (againT t y b)).length) * 65) (by have := hl2.1; omega) ?_
          (conv => arg 1; ext i; whnf)
          refine Evx.pure ?_
          rw [trees_app]; rfl
        · have h4 := hold_false.1 h4
          simp only [trees_len, beq_eq_false_iff_ne, ne_eq] at h4
          have hnb : ¬ (a.fn = sBoth ∧ a.ks.length = 2) := by intro hh; have := hh.2; omega
          (conv => arg 1; ext i; whnf)
          refine Evx.bool (fun h1 => ?_) (fun h1 => ?_)
          · have e1 : plainF t.fn = true := by have := seq_iff.1 h1; rw [this]; decide
            (conv => arg 1; ext i; whnf)
            refine Evx.bool (fun h5 => ?_) (fun h5 => ?_)
            · have e5 := seq_iff.1 h5
              (conv => arg 1; ext i; whnf)
              refine Evx.bool (fun h6 => ?_) (fun h6 => ?_)
              · have e6 := seq_iff.1 h6
                (conv => arg 1; ext i; whnf)
                refine Evx.bool (fun h7 => ?_) (fun h7 => ?_)
                · have h7 := hold_true.1 h7
                  simp only [trees_len, beq_iff_eq] at h7
                  obtain ⟨x, y, hxy⟩ := two_of (ks := b.ks) (by omega)
                  have h2 := twoT_and hf hnb e1 e5 e6 hxy
                  have hl2 := split_len (n + 1) t hN
                  rw [splitF_two h2] at hl2 ⊢
                  rw [List.length_append] at hl2
                  obtain ⟨l1, l2, l3, l4⟩ := two_less h2
                  (conv => arg 1; ext i; whnf)
                  refine Evx.idx (m := 0) rfl (trees_get (ts := b.ks) (i := 0) (t := x) (by rw [hxy]; rfl)) ?_
                  (conv => arg 1; ext i; whnf)
                  refine Evx.call (rwith_ev t a x ht) ?_
                  (conv => arg 1; ext i; whnf)
                  refine Evx.call (rSplit_ev n (againT t a x) (by omega) (by omega) (by omega)) ?_
                  (conv => arg 1; ext i; whnf)
                  refine Evx.idx (m := 1) rfl (trees_get (ts := b.ks) (i := 1) (t := y) (by rw [hxy]; rfl)) ?_
                  (conv => arg 1; ext i; whnf)
                  refine Evx.call (rwith_ev t a y ht) ?_
                  (conv => arg 1; ext i; whnf)
                  refine Evx.call (rSplit_ev n (againT t a y) (by omega) (by omega) (by omega)) ?_
                  (conv => arg 1; ext i; whnf)
                  refine Evx.appd (by rw [trees_len, trees_len]; rfl) (m := ((splitF n (againT t a x)).length + (splitF n (againT t a y)).length) * 65) (by have := hl2.1; omega) ?_
                  (conv => arg 1; ext i; whnf)
                  refine Evx.pure ?_
                  rw [trees_app]; rfl
                · have h7 := hold_false.1 h7
                  simp only [trees_len, beq_eq_false_iff_ne, ne_eq] at h7
                  have h2 : twoT t = none := twoT_none (by intro s' p' e; rw [hf] at e; cases e; exact ⟨hnb, by (intro hh; have := hh.2.2.2; omega)⟩)
                  rw [splitF_one h2 hw]
                  (conv => arg 1; ext i; whnf)
                  refine Evx.call erw ?_
                  (conv => arg 1; ext i; whnf)
                  refine Evx.pure ?_
                  rw [trees_cons]; rfl
              · have e6 := seq_ne.1 h6
                have h2 : twoT t = none := twoT_none (by intro s' p' e; rw [hf] at e; cases e; exact ⟨hnb, by (intro hh; exact e6 hh.2.2.1)⟩)
                rw [splitF_one h2 hw]
                (conv => arg 1; ext i; whnf)
                refine Evx.call erw ?_
                (conv => arg 1; ext i; whnf)
                refine Evx.pure ?_
                rw [trees_cons]; rfl
            · have e5 := seq_ne.1 h5
              have h2 : twoT t = none := twoT_none (by intro s' p' e; rw [hf] at e; cases e; exact ⟨hnb, by (intro hh; exact e5 hh.2.1)⟩)
              rw [splitF_one h2 hw]
              (conv => arg 1; ext i; whnf)
              refine Evx.call erw ?_
              (conv => arg 1; ext i; whnf)
              refine Evx.pure ?_
              rw [trees_cons]; rfl
          · (conv => arg 1; ext i; whnf)
            refine Evx.bool (fun h8 => ?_) (fun h8 => ?_)
            · have e1 : plainF t.fn = true := by have := seq_iff.1 h8; rw [this]; decide
              (conv => arg 1; ext i; whnf)
              refine Evx.bool (fun h5 => ?_) (fun h5 => ?_)
              · have e5 := seq_iff.1 h5
                (conv => arg 1; ext i; whnf)
                refine Evx.bool (fun h6 => ?_) (fun h6 => ?_)
                · have e6 := seq_iff.1 h6
                  (conv => arg 1; ext i; whnf)
                  refine Evx.bool (fun h7 => ?_) (fun h7 => ?_)
                  · have h7 := hold_true.1 h7
                    simp only [trees_len, beq_iff_eq] at h7
                    obtain ⟨x, y, hxy⟩ := two_of (ks := b.ks) (by omega)
                    have h2 := twoT_and hf hnb e1 e5 e6 hxy
                    have hl2 := split_len (n + 1) t hN
                    rw [splitF_two h2] at hl2 ⊢
                    rw [List.length_append] at hl2
                    obtain ⟨l1, l2, l3, l4⟩ := two_less h2
                    (conv => arg 1; ext i; whnf)
                    refine Evx.idx (m := 0) rfl (trees_get (ts := b.ks) (i := 0) (t := x) (by rw [hxy]; rfl)) ?_
                    (conv => arg 1; ext i; whnf)
                    refine Evx.call (rwith_ev t a x ht) ?_
                    (conv => arg 1; ext i; whnf)
                    refine Evx.call (rSplit_ev n (againT t a x) (by omega) (by omega) (by omega)) ?_
                    (conv => arg 1; ext i; whnf)
                    refine Evx.idx (m := 1) rfl (trees_get (ts := b.ks) (i := 1) (t := y) (by rw [hxy]; rfl)) ?_
                    (conv => arg 1; ext i; whnf)
                    refine Evx.call (rwith_ev t a y ht) ?_
                    (conv => arg 1; ext i; whnf)
                    refine Evx.call (rSplit_ev n (againT t a y) (by omega) (by omega) (by omega)) ?_
                    (conv => arg 1; ext i; whnf)
                    refine Evx.appd (by rw [trees_len, trees_len]; rfl) (m := ((splitF n (againT t a x)).length + (splitF n (againT t a y)).length) * 65) (by have := hl2.1; omega) ?_
                    (conv => arg 1; ext i; whnf)
                    refine Evx.pure ?_
                    rw [trees_app]; rfl
                  · have h7 := hold_false.1 h7
                    simp only [trees_len, beq_eq_false_iff_ne, ne_eq] at h7
                    have h2 : twoT t = none := twoT_none (by intro s' p' e; rw [hf] at e; cases e; exact ⟨hnb, by (intro hh; have := hh.2.2.2; omega)⟩)
                    rw [splitF_one h2 hw]
                    (conv => arg 1; ext i; whnf)
                    refine Evx.call erw ?_
                    (conv => arg 1; ext i; whnf)
                    refine Evx.pure ?_
                    rw [trees_cons]; rfl
                · have e6 := seq_ne.1 h6
                  have h2 : twoT t = none := twoT_none (by intro s' p' e; rw [hf] at e; cases e; exact ⟨hnb, by (intro hh; exact e6 hh.2.2.1)⟩)
                  rw [splitF_one h2 hw]
                  (conv => arg 1; ext i; whnf)
                  refine Evx.call erw ?_
                  (conv => arg 1; ext i; whnf)
                  refine Evx.pure ?_
                  rw [trees_cons]; rfl
              · have e5 := seq_ne.1 h5
                have h2 : twoT t = none := twoT_none (by intro s' p' e; rw [hf] at e; cases e; exact ⟨hnb, by (intro hh; exact e5 hh.2.1)⟩)
                rw [splitF_one h2 hw]
                (conv => arg 1; ext i; whnf)
                refine Evx.call erw ?_
                (conv => arg 1; ext i; whnf)
                refine Evx.pure ?_
                rw [trees_cons]; rfl
            · have e8 : plainF t.fn ≠ true := by
                have := seq_ne.1 h1
                have := seq_ne.1 h8
                simp_all [plainF, sAssert, sMust]
              have h2 : twoT t = none := twoT_none (by intro s' p' e; rw [hf] at e; cases e; exact ⟨hnb, by (intro hh; exact e8 hh.1)⟩)
              rw [splitF_one h2 hw]
              (conv => arg 1; ext i; whnf)
              refine Evx.call erw ?_
              (conv => arg 1; ext i; whnf)
              refine Evx.pure ?_
              rw [trees_cons]; rfl
      · have e3 := seq_ne.1 h3
        have hnb : ¬ (a.fn = sBoth ∧ a.ks.length = 2) := fun hh => e3 hh.1
        (conv => arg 1; ext i; whnf)
        refine Evx.bool (fun h1 => ?_) (fun h1 => ?_)
        · have e1 : plainF t.fn = true := by have := seq_iff.1 h1; rw [this]; decide
          (conv => arg 1; ext i; whnf)
          refine Evx.bool (fun h5 => ?_) (fun h5 => ?_)
          · have e5 := seq_iff.1 h5
            (conv => arg 1; ext i; whnf)
            refine Evx.bool (fun h6 => ?_) (fun h6 => ?_)
            · have e6 := seq_iff.1 h6
              (conv => arg 1; ext i; whnf)
              refine Evx.bool (fun h7 => ?_) (fun h7 => ?_)
              · have h7 := hold_true.1 h7
                simp only [trees_len, beq_iff_eq] at h7
                obtain ⟨x, y, hxy⟩ := two_of (ks := b.ks) (by omega)
                have h2 := twoT_and hf hnb e1 e5 e6 hxy
                have hl2 := split_len (n + 1) t hN
                rw [splitF_two h2] at hl2 ⊢
                rw [List.length_append] at hl2
                obtain ⟨l1, l2, l3, l4⟩ := two_less h2
                (conv => arg 1; ext i; whnf)
                refine Evx.idx (m := 0) rfl (trees_get (ts := b.ks) (i := 0) (t := x) (by rw [hxy]; rfl)) ?_
                (conv => arg 1; ext i; whnf)
                refine Evx.call (rwith_ev t a x ht) ?_
                (conv => arg 1; ext i; whnf)
                refine Evx.call (rSplit_ev n (againT t a x) (by omega) (by omega) (by omega)) ?_
                (conv => arg 1; ext i; whnf)
                refine Evx.idx (m := 1) rfl (trees_get (ts := b.ks) (i := 1) (t := y) (by rw [hxy]; rfl)) ?_
                (conv => arg 1; ext i; whnf)
                refine Evx.call (rwith_ev t a y ht) ?_
                (conv => arg 1; ext i; whnf)
                refine Evx.call (rSplit_ev n (againT t a y) (by omega) (by omega) (by omega)) ?_
                (conv => arg 1; ext i; whnf)
                refine Evx.appd (by rw [trees_len, trees_len]; rfl) (m := ((splitF n (againT t a x)).length + (splitF n (againT t a y)).length) * 65) (by have := hl2.1; omega) ?_
                (conv => arg 1; ext i; whnf)
                refine Evx.pure ?_
                rw [trees_app]; rfl
              · have h7 := hold_false.1 h7
                simp only [trees_len, beq_eq_false_iff_ne, ne_eq] at h7
                have h2 : twoT t = none := twoT_none (by intro s' p' e; rw [hf] at e; cases e; exact ⟨hnb, by (intro hh; have := hh.2.2.2; omega)⟩)
                rw [splitF_one h2 hw]
                (conv => arg 1; ext i; whnf)
                refine Evx.call erw ?_
                (conv => arg 1; ext i; whnf)
                refine Evx.pure ?_
                rw [trees_cons]; rfl
            · have e6 := seq_ne.1 h6
              have h2 : twoT t = none := twoT_none (by intro s' p' e; rw [hf] at e; cases e; exact ⟨hnb, by (intro hh; exact e6 hh.2.2.1)⟩)
              rw [splitF_one h2 hw]
              (conv => arg 1; ext i; whnf)
              refine Evx.call erw ?_
              (conv => arg 1; ext i; whnf)
              refine Evx.pure ?_
              rw [trees_cons]; rfl
          · have e5 := seq_ne.1 h5
            have h2 : twoT t = none := twoT_none (by intro s' p' e; rw [hf] at e; cases e; exact ⟨hnb, by (intro hh; exact e5 hh.2.1)⟩)
            rw [splitF_one h2 hw]
            (conv => arg 1; ext i; whnf)
            refine Evx.call erw ?_
            (conv => arg 1; ext i; whnf)
            refine Evx.pure ?_
            rw [trees_cons]; rfl
        · (conv => arg 1; ext i; whnf)
          refine Evx.bool (fun h8 => ?_) (fun h8 => ?_)
          · have e1 : plainF t.fn = true := by have := seq_iff.1 h8; rw [this]; decide
            (conv => arg 1; ext i; whnf)
            refine Evx.bool (fun h5 => ?_) (fun h5 => ?_)
            · have e5 := seq_iff.1 h5
              (conv => arg 1; ext i; whnf)
              refine Evx.bool (fun h6 => ?_) (fun h6 => ?_)
              · have e6 := seq_iff.1 h6
                (conv => arg 1; ext i; whnf)
                refine Evx.bool (fun h7 => ?_) (fun h7 => ?_)
                · have h7 := hold_true.1 h7
                  simp only [trees_len, beq_iff_eq] at h7
                  obtain ⟨x, y, hxy⟩ := two_of (ks := b.ks) (by omega)
                  have h2 := twoT_and hf hnb e1 e5 e6 hxy
                  have hl2 := split_len (n + 1) t hN
                  rw [splitF_two h2] at hl2 ⊢
                  rw [List.length_append] at hl2
                  obtain ⟨l1, l2, l3, l4⟩ := two_less h2
                  (conv => arg 1; ext i; whnf)
                  refine Evx.idx (m := 0) rfl (trees_get (ts := b.ks) (i := 0) (t := x) (by rw [hxy]; rfl)) ?_
                  (conv => arg 1; ext i; whnf)
                  refine Evx.call (rwith_ev t a x ht) ?_
                  (conv => arg 1; ext i; whnf)
                  refine Evx.call (rSplit_ev n (againT t a x) (by omega) (by omega) (by omega)) ?_
                  (conv => arg 1; ext i; whnf)
                  refine Evx.idx (m := 1) rfl (trees_get (ts := b.ks) (i := 1) (t := y) (by rw [hxy]; rfl)) ?_
                  (conv => arg 1; ext i; whnf)
                  refine Evx.call (rwith_ev t a y ht) ?_
                  (conv => arg 1; ext i; whnf)
                  refine Evx.call (rSplit_ev n (againT t a y) (by omega) (by omega) (by omega)) ?_
                  (conv => arg 1; ext i; whnf)
                  refine Evx.appd (by rw [trees_len, trees_len]; rfl) (m := ((splitF n (againT t a x)).length + (splitF n (againT t a y)).length) * 65) (by have := hl2.1; omega) ?_
                  (conv => arg 1; ext i; whnf)
                  refine Evx.pure ?_
                  rw [trees_app]; rfl
                · have h7 := hold_false.1 h7
                  simp only [trees_len, beq_eq_false_iff_ne, ne_eq] at h7
                  have h2 : twoT t = none := twoT_none (by intro s' p' e; rw [hf] at e; cases e; exact ⟨hnb, by (intro hh; have := hh.2.2.2; omega)⟩)
                  rw [splitF_one h2 hw]
                  (conv => arg 1; ext i; whnf)
                  refine Evx.call erw ?_
                  (conv => arg 1; ext i; whnf)
                  refine Evx.pure ?_
                  rw [trees_cons]; rfl
              · have e6 := seq_ne.1 h6
                have h2 : twoT t = none := twoT_none (by intro s' p' e; rw [hf] at e; cases e; exact ⟨hnb, by (intro hh; exact e6 hh.2.2.1)⟩)
                rw [splitF_one h2 hw]
                (conv => arg 1; ext i; whnf)
                refine Evx.call erw ?_
                (conv => arg 1; ext i; whnf)
                refine Evx.pure ?_
                rw [trees_cons]; rfl
            · have e5 := seq_ne.1 h5
              have h2 : twoT t = none := twoT_none (by intro s' p' e; rw [hf] at e; cases e; exact ⟨hnb, by (intro hh; exact e5 hh.2.1)⟩)
              rw [splitF_one h2 hw]
              (conv => arg 1; ext i; whnf)
              refine Evx.call erw ?_
              (conv => arg 1; ext i; whnf)
              refine Evx.pure ?_
              rw [trees_cons]; rfl
          · have e8 : plainF t.fn ≠ true := by
              have := seq_ne.1 h1
              have := seq_ne.1 h8
              simp_all [plainF, sAssert, sMust]
            have h2 : twoT t = none := twoT_none (by intro s' p' e; rw [hf] at e; cases e; exact ⟨hnb, by (intro hh; exact e8 hh.1)⟩)
            rw [splitF_one h2 hw]
            (conv => arg 1; ext i; whnf)
            refine Evx.call erw ?_
            (conv => arg 1; ext i; whnf)
            refine Evx.pure ?_
            rw [trees_cons]; rfl
end Go.Proofs.YtfiefcfjedmhaaaDoor
