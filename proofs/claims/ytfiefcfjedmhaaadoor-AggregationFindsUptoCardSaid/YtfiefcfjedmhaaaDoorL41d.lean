/- The laws Inverts, Finds: walked. -/
import Derived.Test.YtfiefcfjedmhaaaDoorL41b
namespace Go.Proofs.YtfiefcfjedmhaaaDoor
open Go Go.Abs Go.Abs.Asks
set_option linter.unusedVariables false
set_option linter.unusedSimpArgs false
set_option linter.unusedSectionVars false

def frm2 (f : ByteArray) (s p : Tree) : Tree := .node f [] [s, p]
theorem frm2_frame {f : ByteArray} (h : frame4 f = true) (s p : Tree) : frameT (frm2 f s p) = some (s, p) := frameT_of h rfl
theorem frm2_both {f : ByteArray} (h : frame4 f = true) (a b p : Tree) : splitT (frm2 f (.node sBoth [] [a, b]) p) = splitT (frm2 f a p) ++ splitT (frm2 f b p) :=
  splitT_two (twoT_both (frm2_frame h _ p) rfl rfl)
theorem frm2_d (f : ByteArray) (s p : Tree) : (frm2 f s p).d = .agg [.str f, .sl 1 [], .sl 3 [[.str s.fn, .sl 1 (ints s.vs), .sl 3 (trees s.ks)], [.str p.fn, .sl 1 (ints p.vs), .sl 3 (trees p.ks)]]] := by
  unfold frm2; rw [d_node, trees_cons, trees_cons]; rfl
theorem frm2_size (f : ByteArray) (s p : Tree) : (frm2 f s p).size = 1 + (s.size + p.size) := by unfold frm2; rw [size_node, sizes_two]
theorem frm2_bulk (f : ByteArray) (s p : Tree) : (frm2 f s p).bulk = (Tree.node f [] []).bulk + (s.bulk + p.bulk) := by unfold frm2; rw [bulk_node, bulks_two]
theorem leaf_bulk (f : ByteArray) : (Tree.node f [] []).bulk ≤ f.size + 16 := by simp [Tree.bulk, bulks]
variable [Asks]

theorem over_ev (f : ByteArray) (s p : Tree) : Ev pr 24 [.str f, .sl 3 (trees [s, p])] (.ret [.d (frm2 f s p).d]) := by
  apply Ev.enter; intro c; (conv => arg 1; ext i; whnf)
  exact Evx.pure rfl
theorem few_three {a b v : Tree} (h : few41 [a, b, v] = true) : a.size ≤ 40 ∧ b.size ≤ 40 ∧ v.size ≤ 40 := by
  simp [few41] at h; omega

theorem invertsLaw_ev (f : ByteArray) (a b v : Tree) (hf : f.size < 2 ^ 21) (ha : a.bulk < 2 ^ 21) (hb : b.bulk < 2 ^ 21) (hv : v.bulk < 2 ^ 21) : Ev pr 9 [.str f, a.d, b.d, v.d] (.ret [.d (.bool true)]) := by
  have ef := few41_ev [a, b, v] (by simp) (three_ok (by unfold Tree.ok; omega) (by unfold Tree.ok; omega) (by unfold Tree.ok; omega))
  rw [trees_cons, trees_cons, trees_cons] at ef
  have o1 := over_ev f a v
  have o2 := over_ev f b v
  have o3 := over_ev sBoth a b
  have o4 := over_ev f (frm2 sBoth a b) v
  rw [trees_cons, trees_cons] at o1 o2 o3 o4
  have lf := leaf_bulk f
  have lB : (Tree.node sBoth [] []).bulk ≤ 24 := Nat.le_trans (leaf_bulk sBoth) (by decide)
  have b1 := frm2_bulk f a v
  have b2 := frm2_bulk f b v
  have b3 := frm2_bulk sBoth a b
  have b4 := frm2_bulk f (frm2 sBoth a b) v
  have eF := FrameP_ev (frm2 f a v) (by unfold Tree.ok; omega)
  apply Ev.enter; intro c; (conv => arg 1; ext i; whnf)
  refine Evx.call awake41_ev ?_
  (conv => arg 1; ext i; whnf)
  refine Evx.call ef ?_
  (conv => arg 1; ext i; whnf)
  refine Evx.bool (fun h1 => ?_) (fun h1 => ?_)
  · (conv => arg 1; ext i; whnf)
    refine Evx.call awake41_ev ?_
    (conv => arg 1; ext i; whnf)
    exact Evx.pure rfl
  (conv => arg 1; ext i; whnf)
  refine Evx.bool (fun h9 => ?_) (fun h9 => ?_)
  · (conv => arg 1; ext i; whnf)
    refine Evx.call awake41_ev ?_
    (conv => arg 1; ext i; whnf)
    exact Evx.pure rfl
  (conv => arg 1; ext i; whnf)
  obtain ⟨z1, z2, z3⟩ := few_three (by simpa using h1)
  have q1 := frm2_size f a v
  have q2 := frm2_size f b v
  have q3 := frm2_size sBoth a b
  have q4 := frm2_size f (frm2 sBoth a b) v
  have s1 := split_ev (frm2 f a v) (by omega) (by omega)
  have s2 := split_ev (frm2 f b v) (by omega) (by omega)
  have s3 := split_ev (frm2 f (frm2 sBoth a b) v) (by omega) (by omega)
  have n1 : (splitT (frm2 f a v)).length ≤ 2 ^ 30 := Nat.le_trans (split_len _ _ (Nat.le_refl _)).1 (sq_le (by omega))
  have n2 : (splitT (frm2 f b v)).length ≤ 2 ^ 30 := Nat.le_trans (split_len _ _ (Nat.le_refl _)).1 (sq_le (by omega))
  refine Evx.call o1 ?_
  (conv => arg 1; ext i; whnf)
  refine Evx.call eF ?_
  by_cases hfr : frame4 f = true
  · rw [frm2_frame hfr]
    have hbo := frm2_both hfr a b v
    change splitT (frm2 f (frm2 sBoth a b) v) = _ at hbo
    have es := sameAll_ev (splitT (frm2 f a v) ++ splitT (frm2 f b v)) (splitT (frm2 f a v) ++ splitT (frm2 f b v)) (by rw [List.length_append]; omega) (by
      intro i m hm
      have hm := List.mem_of_getElem? hm
      unfold Tree.ok
      rcases List.mem_append.1 hm with hm | hm
      · have := split_bulk _ _ (Nat.le_refl _) m hm; omega
      · have := split_bulk _ _ (Nat.le_refl _) m hm; omega)
    rw [(sames_iff _ _).2 rfl, trees_app] at es
    rw [hbo, trees_app] at s3
    have hs : Same.same (Out.ret [.d (.bool true)]) (Out.ret [.d (.bool true)]) = true := rfl
    (conv => arg 1; ext i; whnf)
    refine Evx.call o3 ?_
    (conv => arg 1; ext i; whnf)
    refine Evx.call o4 ?_
    (conv => arg 1; ext i; whnf)
    refine Evx.call s3 ?_
    (conv => arg 1; ext i; whnf)
    refine Evx.two hs ?_ ?_
    · (conv => arg 1; ext i; whnf)
      refine Evx.call o1 ?_
      (conv => arg 1; ext i; whnf)
      refine Evx.call s1 ?_
      (conv => arg 1; ext i; whnf)
      refine Evx.appd rfl (m := (0 + (trees (splitT (frm2 f a v))).length) * 65) (by rw [trees_len]; omega) ?_
      (conv => arg 1; ext i; whnf)
      refine Evx.call o2 ?_
      (conv => arg 1; ext i; whnf)
      refine Evx.call s2 ?_
      (conv => arg 1; ext i; whnf)
      refine Evx.appd rfl (m := ((trees (splitT (frm2 f a v))).length + (trees (splitT (frm2 f b v))).length) * 65) (by rw [trees_len, trees_len]; omega) ?_
      (conv => arg 1; ext i; whnf)
      refine Evx.call es ?_
      (conv => arg 1; ext i; whnf)
      exact Evx.pure rfl
    (conv => arg 1; ext i; whnf)
    refine Evx.two hs ?_ ?_
    · (conv => arg 1; ext i; whnf)
      refine Evx.call o1 ?_
      (conv => arg 1; ext i; whnf)
      refine Evx.call s1 ?_
      (conv => arg 1; ext i; whnf)
      refine Evx.appd rfl (m := (0 + (trees (splitT (frm2 f a v))).length) * 65) (by rw [trees_len]; omega) ?_
      (conv => arg 1; ext i; whnf)
      refine Evx.call o2 ?_
      (conv => arg 1; ext i; whnf)
      refine Evx.call s2 ?_
      (conv => arg 1; ext i; whnf)
      refine Evx.appd rfl (m := ((trees (splitT (frm2 f a v))).length + (trees (splitT (frm2 f b v))).length) * 65) (by rw [trees_len, trees_len]; omega) ?_
      (conv => arg 1; ext i; whnf)
      refine Evx.call es ?_
      (conv => arg 1; ext i; whnf)
      exact Evx.pure rfl
    (conv => arg 1; ext i; whnf)
    refine Evx.two hs ?_ ?_
    · (conv => arg 1; ext i; whnf)
      refine Evx.call o1 ?_
      (conv => arg 1; ext i; whnf)
      refine Evx.call s1 ?_
      (conv => arg 1; ext i; whnf)
      refine Evx.appd rfl (m := (0 + (trees (splitT (frm2 f a v))).length) * 65) (by rw [trees_len]; omega) ?_
      (conv => arg 1; ext i; whnf)
      refine Evx.call o2 ?_
      (conv => arg 1; ext i; whnf)
      refine Evx.call s2 ?_
      (conv => arg 1; ext i; whnf)
      refine Evx.appd rfl (m := ((trees (splitT (frm2 f a v))).length + (trees (splitT (frm2 f b v))).length) * 65) (by rw [trees_len, trees_len]; omega) ?_
      (conv => arg 1; ext i; whnf)
      refine Evx.call es ?_
      (conv => arg 1; ext i; whnf)
      exact Evx.pure rfl
    (conv => arg 1; ext i; whnf)
    refine Evx.two hs ?_ ?_
    · (conv => arg 1; ext i; whnf)
      refine Evx.call o1 ?_
      (conv => arg 1; ext i; whnf)
      refine Evx.call s1 ?_
      (conv => arg 1; ext i; whnf)
      refine Evx.appd rfl (m := (0 + (trees (splitT (frm2 f a v))).length) * 65) (by rw [trees_len]; omega) ?_
      (conv => arg 1; ext i; whnf)
      refine Evx.call o2 ?_
      (conv => arg 1; ext i; whnf)
      refine Evx.call s2 ?_
      (conv => arg 1; ext i; whnf)
      refine Evx.appd rfl (m := ((trees (splitT (frm2 f a v))).length + (trees (splitT (frm2 f b v))).length) * 65) (by rw [trees_len, trees_len]; omega) ?_
      (conv => arg 1; ext i; whnf)
      refine Evx.call es ?_
      (conv => arg 1; ext i; whnf)
      exact Evx.pure rfl
    (conv => arg 1; ext i; whnf)
    refine Evx.two hs ?_ ?_
    · (conv => arg 1; ext i; whnf)
      refine Evx.call o1 ?_
      (conv => arg 1; ext i; whnf)
      refine Evx.call s1 ?_
      (conv => arg 1; ext i; whnf)
      refine Evx.appd rfl (m := (0 + (trees (splitT (frm2 f a v))).length) * 65) (by rw [trees_len]; omega) ?_
      (conv => arg 1; ext i; whnf)
      refine Evx.call o2 ?_
      (conv => arg 1; ext i; whnf)
      refine Evx.call s2 ?_
      (conv => arg 1; ext i; whnf)
      refine Evx.appd rfl (m := ((trees (splitT (frm2 f a v))).length + (trees (splitT (frm2 f b v))).length) * 65) (by rw [trees_len, trees_len]; omega) ?_
      (conv => arg 1; ext i; whnf)
      refine Evx.call es ?_
      (conv => arg 1; ext i; whnf)
      exact Evx.pure rfl
    (conv => arg 1; ext i; whnf)
    refine Evx.two hs ?_ ?_
    · (conv => arg 1; ext i; whnf)
      refine Evx.call o1 ?_
      (conv => arg 1; ext i; whnf)
      refine Evx.call s1 ?_
      (conv => arg 1; ext i; whnf)
      refine Evx.appd rfl (m := (0 + (trees (splitT (frm2 f a v))).length) * 65) (by rw [trees_len]; omega) ?_
      (conv => arg 1; ext i; whnf)
      refine Evx.call o2 ?_
      (conv => arg 1; ext i; whnf)
      refine Evx.call s2 ?_
      (conv => arg 1; ext i; whnf)
      refine Evx.appd rfl (m := ((trees (splitT (frm2 f a v))).length + (trees (splitT (frm2 f b v))).length) * 65) (by rw [trees_len, trees_len]; omega) ?_
      (conv => arg 1; ext i; whnf)
      refine Evx.call es ?_
      (conv => arg 1; ext i; whnf)
      exact Evx.pure rfl
    (conv => arg 1; ext i; whnf)
    refine Evx.two hs ?_ ?_
    · (conv => arg 1; ext i; whnf)
      refine Evx.call o1 ?_
      (conv => arg 1; ext i; whnf)
      refine Evx.call s1 ?_
      (conv => arg 1; ext i; whnf)
      refine Evx.appd rfl (m := (0 + (trees (splitT (frm2 f a v))).length) * 65) (by rw [trees_len]; omega) ?_
      (conv => arg 1; ext i; whnf)
      refine Evx.call o2 ?_
      (conv => arg 1; ext i; whnf)
      refine Evx.call s2 ?_
      (conv => arg 1; ext i; whnf)
      refine Evx.appd rfl (m := ((trees (splitT (frm2 f a v))).length + (trees (splitT (frm2 f b v))).length) * 65) (by rw [trees_len, trees_len]; omega) ?_
      (conv => arg 1; ext i; whnf)
      refine Evx.call es ?_
      (conv => arg 1; ext i; whnf)
      exact Evx.pure rfl
    (conv => arg 1; ext i; whnf)
    refine Evx.two hs ?_ ?_
    · (conv => arg 1; ext i; whnf)
      refine Evx.call o1 ?_
      (conv => arg 1; ext i; whnf)
      refine Evx.call s1 ?_
      (conv => arg 1; ext i; whnf)
      refine Evx.appd rfl (m := (0 + (trees (splitT (frm2 f a v))).length) * 65) (by rw [trees_len]; omega) ?_
      (conv => arg 1; ext i; whnf)
      refine Evx.call o2 ?_
      (conv => arg 1; ext i; whnf)
      refine Evx.call s2 ?_
      (conv => arg 1; ext i; whnf)
      refine Evx.appd rfl (m := ((trees (splitT (frm2 f a v))).length + (trees (splitT (frm2 f b v))).length) * 65) (by rw [trees_len, trees_len]; omega) ?_
      (conv => arg 1; ext i; whnf)
      refine Evx.call es ?_
      (conv => arg 1; ext i; whnf)
      exact Evx.pure rfl
    (conv => arg 1; ext i; whnf)
    refine Evx.call o1 ?_
    (conv => arg 1; ext i; whnf)
    refine Evx.call s1 ?_
    (conv => arg 1; ext i; whnf)
    refine Evx.appd rfl (m := (0 + (trees (splitT (frm2 f a v))).length) * 65) (by rw [trees_len]; omega) ?_
    (conv => arg 1; ext i; whnf)
    refine Evx.call o2 ?_
    (conv => arg 1; ext i; whnf)
    refine Evx.call s2 ?_
    (conv => arg 1; ext i; whnf)
    refine Evx.appd rfl (m := ((trees (splitT (frm2 f a v))).length + (trees (splitT (frm2 f b v))).length) * 65) (by rw [trees_len, trees_len]; omega) ?_
    (conv => arg 1; ext i; whnf)
    refine Evx.call es ?_
    (conv => arg 1; ext i; whnf)
    exact Evx.pure rfl
  · rw [frameT_none (.inl (by show frame4 f = false; simpa using hfr))]
    (conv => arg 1; ext i; whnf)
    exact Evx.pure rfl

theorem findsLaw_ev (f : ByteArray) (a b v : Tree) (hf : f.size < 2 ^ 21) (ha : a.bulk < 2 ^ 21) (hb : b.bulk < 2 ^ 21) (hv : v.bulk < 2 ^ 21) : Ev pr 10 [.str f, a.d, b.d, v.d] (.ret [.d (.bool true)]) := by
  have ef := few41_ev [a, b, v] (by simp) (three_ok (by unfold Tree.ok; omega) (by unfold Tree.ok; omega) (by unfold Tree.ok; omega))
  rw [trees_cons, trees_cons, trees_cons] at ef
  have o1 := over_ev f a v
  have o2 := over_ev f b v
  rw [trees_cons, trees_cons] at o1 o2
  have lf := leaf_bulk f
  have lB : (Tree.node sBoth [] []).bulk ≤ 24 := Nat.le_trans (leaf_bulk sBoth) (by decide)
  have b1 := frm2_bulk f a v
  have b2 := frm2_bulk f b v
  have b3 := frm2_bulk sBoth a b
  have b4 := frm2_bulk f (frm2 sBoth a b) v
  have eF := FrameP_ev (frm2 f a v) (by unfold Tree.ok; omega)
  have em := merge_ev (frm2 f a v) (frm2 f b v) (by omega) (by omega)
  have hs : Same.same (Out.ret [.d (.bool true)]) (Out.ret [.d (.bool true)]) = true := rfl
  apply Ev.enter; intro c; (conv => arg 1; ext i; whnf)
  refine Evx.call awake41_ev ?_
  (conv => arg 1; ext i; whnf)
  refine Evx.call ef ?_
  (conv => arg 1; ext i; whnf)
  refine Evx.bool (fun h1 => ?_) (fun h1 => ?_)
  · (conv => arg 1; ext i; whnf)
    refine Evx.call awake41_ev ?_
    (conv => arg 1; ext i; whnf)
    exact Evx.pure rfl
  (conv => arg 1; ext i; whnf)
  refine Evx.bool (fun h9 => ?_) (fun h9 => ?_)
  · (conv => arg 1; ext i; whnf)
    refine Evx.call awake41_ev ?_
    (conv => arg 1; ext i; whnf)
    exact Evx.pure rfl
  (conv => arg 1; ext i; whnf)
  obtain ⟨z1, z2, z3⟩ := few_three (by simpa using h1)
  have q1 := frm2_size f a v
  have q2 := frm2_size f b v
  have q3 := frm2_size sBoth a b
  have q4 := frm2_size f (frm2 sBoth a b) v
  have s1 := split_ev (frm2 f a v) (by omega) (by omega)
  have s2 := split_ev (frm2 f b v) (by omega) (by omega)
  have s3 := split_ev (frm2 f (frm2 sBoth a b) v) (by omega) (by omega)
  have n1 : (splitT (frm2 f a v)).length ≤ 2 ^ 30 := Nat.le_trans (split_len _ _ (Nat.le_refl _)).1 (sq_le (by omega))
  have n2 : (splitT (frm2 f b v)).length ≤ 2 ^ 30 := Nat.le_trans (split_len _ _ (Nat.le_refl _)).1 (sq_le (by omega))
  by_cases hfr : frame4 f = true
  · rw [frm2_frame hfr] at eF
    have hbo := frm2_both hfr a b v
    change splitT (frm2 f (frm2 sBoth a b) v) = _ at hbo
    have es := sameAll_ev (splitT (frm2 f a v) ++ splitT (frm2 f b v)) (splitT (frm2 f a v) ++ splitT (frm2 f b v)) (by rw [List.length_append]; omega) (by
      intro i m hm
      have hm := List.mem_of_getElem? hm
      unfold Tree.ok
      rcases List.mem_append.1 hm with hm | hm
      · have := split_bulk _ _ (Nat.le_refl _) m hm; omega
      · have := split_bulk _ _ (Nat.le_refl _) m hm; omega)
    rw [(sames_iff _ _).2 rfl, trees_app] at es
    rw [hbo, trees_app] at s3
    have hmt : mergeT (frm2 f a v) (frm2 f b v) = joinF f a v b v := merge_frame rfl (frm2_frame hfr a v) (frm2_frame hfr b v)
    have hm0 : (mergeT (frm2 f a v) (frm2 f b v))[0]? = some (frm2 f (frm2 sBoth a b) v) := by
      rw [hmt]; unfold joinF; rw [if_pos rfl]; rfl
    have hml : 0 < (mergeT (frm2 f a v) (frm2 f b v)).length := by
      rw [hmt]; unfold joinF; rw [if_pos rfl]; simp
    have hmv : mergeV (frm2 f a v) (frm2 f b v) = .own (.res 0) 3 (trees (mergeT (frm2 f a v) (frm2 f b v))) := by
      rcases mergeV_cases (frm2 f a v) (frm2 f b v) with h | ⟨_, h⟩
      · exact h
      · rw [h] at hml; simp at hml
    rw [hmv] at em
    generalize mergeT (frm2 f a v) (frm2 f b v) = ms at *
    (conv => arg 1; ext i; whnf)
    refine Evx.two hs ?_ ?_
    · (conv => arg 1; ext i; whnf)
      refine Evx.call o1 ?_
      (conv => arg 1; ext i; whnf)
      refine Evx.call o2 ?_
      (conv => arg 1; ext i; whnf)
      refine Evx.call eF ?_
      (conv => arg 1; ext i; whnf)
      refine Evx.call em ?_
      (conv => arg 1; ext i; whnf)
      refine Evx.two hs ?_ ?_
      · (conv => arg 1; ext i; whnf)
        refine Evx.call s1 ?_
        (conv => arg 1; ext i; whnf)
        refine Evx.appd rfl (m := (0 + (trees (splitT (frm2 f a v))).length) * 65) (by rw [trees_len]; omega) ?_
        (conv => arg 1; ext i; whnf)
        refine Evx.call s2 ?_
        (conv => arg 1; ext i; whnf)
        refine Evx.appd rfl (m := ((trees (splitT (frm2 f a v))).length + (trees (splitT (frm2 f b v))).length) * 65) (by rw [trees_len, trees_len]; omega) ?_
        (conv => arg 1; ext i; whnf)
        refine Evx.bool (fun g1 => ?_) (fun g1 => ?_)
        · (conv => arg 1; ext i; whnf)
          refine Evx.idx (m := 0) rfl (trees_get hm0) ?_
          (conv => arg 1; ext i; whnf)
          refine Evx.call s3 ?_
          (conv => arg 1; ext i; whnf)
          refine Evx.call es ?_
          (conv => arg 1; ext i; whnf)
          exact Evx.pure rfl
        · have g1 := hold_false.1 g1
          rw [trees_len] at g1
          simp only [gt_iff_lt, decide_eq_false_iff_not] at g1
          exact absurd (by omega) g1
      (conv => arg 1; ext i; whnf)
      refine Evx.call s1 ?_
      (conv => arg 1; ext i; whnf)
      refine Evx.appd rfl (m := (0 + (trees (splitT (frm2 f a v))).length) * 65) (by rw [trees_len]; omega) ?_
      (conv => arg 1; ext i; whnf)
      refine Evx.call s2 ?_
      (conv => arg 1; ext i; whnf)
      refine Evx.appd rfl (m := ((trees (splitT (frm2 f a v))).length + (trees (splitT (frm2 f b v))).length) * 65) (by rw [trees_len, trees_len]; omega) ?_
      (conv => arg 1; ext i; whnf)
      refine Evx.bool (fun g1 => ?_) (fun g1 => ?_)
      · (conv => arg 1; ext i; whnf)
        refine Evx.idx (m := 0) rfl (trees_get hm0) ?_
        (conv => arg 1; ext i; whnf)
        refine Evx.call s3 ?_
        (conv => arg 1; ext i; whnf)
        refine Evx.call es ?_
        (conv => arg 1; ext i; whnf)
        exact Evx.pure rfl
      · have g1 := hold_false.1 g1
        rw [trees_len] at g1
        simp only [gt_iff_lt, decide_eq_false_iff_not] at g1
        exact absurd (by omega) g1
    (conv => arg 1; ext i; whnf)
    refine Evx.two hs ?_ ?_
    · (conv => arg 1; ext i; whnf)
      refine Evx.call o1 ?_
      (conv => arg 1; ext i; whnf)
      refine Evx.call o2 ?_
      (conv => arg 1; ext i; whnf)
      refine Evx.call eF ?_
      (conv => arg 1; ext i; whnf)
      refine Evx.call em ?_
      (conv => arg 1; ext i; whnf)
      refine Evx.two hs ?_ ?_
      · (conv => arg 1; ext i; whnf)
        refine Evx.call s1 ?_
        (conv => arg 1; ext i; whnf)
        refine Evx.appd rfl (m := (0 + (trees (splitT (frm2 f a v))).length) * 65) (by rw [trees_len]; omega) ?_
        (conv => arg 1; ext i; whnf)
        refine Evx.call s2 ?_
        (conv => arg 1; ext i; whnf)
        refine Evx.appd rfl (m := ((trees (splitT (frm2 f a v))).length + (trees (splitT (frm2 f b v))).length) * 65) (by rw [trees_len, trees_len]; omega) ?_
        (conv => arg 1; ext i; whnf)
        refine Evx.bool (fun g1 => ?_) (fun g1 => ?_)
        · (conv => arg 1; ext i; whnf)
          refine Evx.idx (m := 0) rfl (trees_get hm0) ?_
          (conv => arg 1; ext i; whnf)
          refine Evx.call s3 ?_
          (conv => arg 1; ext i; whnf)
          refine Evx.call es ?_
          (conv => arg 1; ext i; whnf)
          exact Evx.pure rfl
        · have g1 := hold_false.1 g1
          rw [trees_len] at g1
          simp only [gt_iff_lt, decide_eq_false_iff_not] at g1
          exact absurd (by omega) g1
      (conv => arg 1; ext i; whnf)
      refine Evx.call s1 ?_
      (conv => arg 1; ext i; whnf)
      refine Evx.appd rfl (m := (0 + (trees (splitT (frm2 f a v))).length) * 65) (by rw [trees_len]; omega) ?_
      (conv => arg 1; ext i; whnf)
      refine Evx.call s2 ?_
      (conv => arg 1; ext i; whnf)
      refine Evx.appd rfl (m := ((trees (splitT (frm2 f a v))).length + (trees (splitT (frm2 f b v))).length) * 65) (by rw [trees_len, trees_len]; omega) ?_
      (conv => arg 1; ext i; whnf)
      refine Evx.bool (fun g1 => ?_) (fun g1 => ?_)
      · (conv => arg 1; ext i; whnf)
        refine Evx.idx (m := 0) rfl (trees_get hm0) ?_
        (conv => arg 1; ext i; whnf)
        refine Evx.call s3 ?_
        (conv => arg 1; ext i; whnf)
        refine Evx.call es ?_
        (conv => arg 1; ext i; whnf)
        exact Evx.pure rfl
      · have g1 := hold_false.1 g1
        rw [trees_len] at g1
        simp only [gt_iff_lt, decide_eq_false_iff_not] at g1
        exact absurd (by omega) g1
    (conv => arg 1; ext i; whnf)
    refine Evx.two hs ?_ ?_
    · (conv => arg 1; ext i; whnf)
      refine Evx.call o1 ?_
      (conv => arg 1; ext i; whnf)
      refine Evx.call o2 ?_
      (conv => arg 1; ext i; whnf)
      refine Evx.call eF ?_
      (conv => arg 1; ext i; whnf)
      refine Evx.call em ?_
      (conv => arg 1; ext i; whnf)
      refine Evx.two hs ?_ ?_
      · (conv => arg 1; ext i; whnf)
        refine Evx.call s1 ?_
        (conv => arg 1; ext i; whnf)
        refine Evx.appd rfl (m := (0 + (trees (splitT (frm2 f a v))).length) * 65) (by rw [trees_len]; omega) ?_
        (conv => arg 1; ext i; whnf)
        refine Evx.call s2 ?_
        (conv => arg 1; ext i; whnf)
        refine Evx.appd rfl (m := ((trees (splitT (frm2 f a v))).length + (trees (splitT (frm2 f b v))).length) * 65) (by rw [trees_len, trees_len]; omega) ?_
        (conv => arg 1; ext i; whnf)
        refine Evx.bool (fun g1 => ?_) (fun g1 => ?_)
        · (conv => arg 1; ext i; whnf)
          refine Evx.idx (m := 0) rfl (trees_get hm0) ?_
          (conv => arg 1; ext i; whnf)
          refine Evx.call s3 ?_
          (conv => arg 1; ext i; whnf)
          refine Evx.call es ?_
          (conv => arg 1; ext i; whnf)
          exact Evx.pure rfl
        · have g1 := hold_false.1 g1
          rw [trees_len] at g1
          simp only [gt_iff_lt, decide_eq_false_iff_not] at g1
          exact absurd (by omega) g1
      (conv => arg 1; ext i; whnf)
      refine Evx.call s1 ?_
      (conv => arg 1; ext i; whnf)
      refine Evx.appd rfl (m := (0 + (trees (splitT (frm2 f a v))).length) * 65) (by rw [trees_len]; omega) ?_
      (conv => arg 1; ext i; whnf)
      refine Evx.call s2 ?_
      (conv => arg 1; ext i; whnf)
      refine Evx.appd rfl (m := ((trees (splitT (frm2 f a v))).length + (trees (splitT (frm2 f b v))).length) * 65) (by rw [trees_len, trees_len]; omega) ?_
      (conv => arg 1; ext i; whnf)
      refine Evx.bool (fun g1 => ?_) (fun g1 => ?_)
      · (conv => arg 1; ext i; whnf)
        refine Evx.idx (m := 0) rfl (trees_get hm0) ?_
        (conv => arg 1; ext i; whnf)
        refine Evx.call s3 ?_
        (conv => arg 1; ext i; whnf)
        refine Evx.call es ?_
        (conv => arg 1; ext i; whnf)
        exact Evx.pure rfl
      · have g1 := hold_false.1 g1
        rw [trees_len] at g1
        simp only [gt_iff_lt, decide_eq_false_iff_not] at g1
        exact absurd (by omega) g1
    (conv => arg 1; ext i; whnf)
    refine Evx.call o1 ?_
    (conv => arg 1; ext i; whnf)
    refine Evx.call o2 ?_
    (conv => arg 1; ext i; whnf)
    refine Evx.call eF ?_
    (conv => arg 1; ext i; whnf)
    refine Evx.call em ?_
    (conv => arg 1; ext i; whnf)
    refine Evx.two hs ?_ ?_
    · (conv => arg 1; ext i; whnf)
      refine Evx.call s1 ?_
      (conv => arg 1; ext i; whnf)
      refine Evx.appd rfl (m := (0 + (trees (splitT (frm2 f a v))).length) * 65) (by rw [trees_len]; omega) ?_
      (conv => arg 1; ext i; whnf)
      refine Evx.call s2 ?_
      (conv => arg 1; ext i; whnf)
      refine Evx.appd rfl (m := ((trees (splitT (frm2 f a v))).length + (trees (splitT (frm2 f b v))).length) * 65) (by rw [trees_len, trees_len]; omega) ?_
      (conv => arg 1; ext i; whnf)
      refine Evx.bool (fun g1 => ?_) (fun g1 => ?_)
      · (conv => arg 1; ext i; whnf)
        refine Evx.idx (m := 0) rfl (trees_get hm0) ?_
        (conv => arg 1; ext i; whnf)
        refine Evx.call s3 ?_
        (conv => arg 1; ext i; whnf)
        refine Evx.call es ?_
        (conv => arg 1; ext i; whnf)
        exact Evx.pure rfl
      · have g1 := hold_false.1 g1
        rw [trees_len] at g1
        simp only [gt_iff_lt, decide_eq_false_iff_not] at g1
        exact absurd (by omega) g1
    (conv => arg 1; ext i; whnf)
    refine Evx.call s1 ?_
    (conv => arg 1; ext i; whnf)
    refine Evx.appd rfl (m := (0 + (trees (splitT (frm2 f a v))).length) * 65) (by rw [trees_len]; omega) ?_
    (conv => arg 1; ext i; whnf)
    refine Evx.call s2 ?_
    (conv => arg 1; ext i; whnf)
    refine Evx.appd rfl (m := ((trees (splitT (frm2 f a v))).length + (trees (splitT (frm2 f b v))).length) * 65) (by rw [trees_len, trees_len]; omega) ?_
    (conv => arg 1; ext i; whnf)
    refine Evx.bool (fun g1 => ?_) (fun g1 => ?_)
    · (conv => arg 1; ext i; whnf)
      refine Evx.idx (m := 0) rfl (trees_get hm0) ?_
      (conv => arg 1; ext i; whnf)
      refine Evx.call s3 ?_
      (conv => arg 1; ext i; whnf)
      refine Evx.call es ?_
      (conv => arg 1; ext i; whnf)
      exact Evx.pure rfl
    · have g1 := hold_false.1 g1
      rw [trees_len] at g1
      simp only [gt_iff_lt, decide_eq_false_iff_not] at g1
      exact absurd (by omega) g1
  · rw [frameT_none (.inl (by show frame4 f = false; simpa using hfr))] at eF
    (conv => arg 1; ext i; whnf)
    refine Evx.two hs ?_ ?_
    · (conv => arg 1; ext i; whnf)
      refine Evx.call o1 ?_
      (conv => arg 1; ext i; whnf)
      refine Evx.call o2 ?_
      (conv => arg 1; ext i; whnf)
      refine Evx.call eF ?_
      (conv => arg 1; ext i; whnf)
      exact Evx.pure rfl
    (conv => arg 1; ext i; whnf)
    refine Evx.two hs ?_ ?_
    · (conv => arg 1; ext i; whnf)
      refine Evx.call o1 ?_
      (conv => arg 1; ext i; whnf)
      refine Evx.call o2 ?_
      (conv => arg 1; ext i; whnf)
      refine Evx.call eF ?_
      (conv => arg 1; ext i; whnf)
      exact Evx.pure rfl
    (conv => arg 1; ext i; whnf)
    refine Evx.two hs ?_ ?_
    · (conv => arg 1; ext i; whnf)
      refine Evx.call o1 ?_
      (conv => arg 1; ext i; whnf)
      refine Evx.call o2 ?_
      (conv => arg 1; ext i; whnf)
      refine Evx.call eF ?_
      (conv => arg 1; ext i; whnf)
      exact Evx.pure rfl
    (conv => arg 1; ext i; whnf)
    refine Evx.call o1 ?_
    (conv => arg 1; ext i; whnf)
    refine Evx.call o2 ?_
    (conv => arg 1; ext i; whnf)
    refine Evx.call eF ?_
    (conv => arg 1; ext i; whnf)
    exact Evx.pure rfl
end Go.Proofs.YtfiefcfjedmhaaaDoor
