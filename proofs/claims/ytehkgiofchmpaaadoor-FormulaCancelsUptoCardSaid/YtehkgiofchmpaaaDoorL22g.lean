/- The laws of closing and of cancelling. -/
import Derived.Test.YtehkgiofchmpaaaDoorL22c
namespace Go.Proofs.YtehkgiofchmpaaaDoor
open Go Go.Abs Go.Abs.Asks
set_option linter.unusedVariables false
set_option linter.unusedSimpArgs false
set_option linter.unusedSectionVars false
variable [Asks]

/-- THE LAW of closing. -/
theorem closesLaw_ev (t : Fm) (n : Int) (s : ByteArray) (ht : t.ok) (hs : s.size < 2 ^ 30) : Ev pr 9 [t.d, .int .i64 n, .str s] (.ret [.d (.bool true)]) := by
  apply Ev.enter; intro c; (conv => arg 1; ext i; whnf)
  refine Evx.call awake22_ev ?_
  (conv => arg 1; ext i; whnf)
  (refine Evx.bool (fun h => ?_) (fun h => ?_) <;> (try simp only [hold_eq, seq_dec, bne_iff_ne, beq_iff_eq, ne_eq, Bool.not_eq_true', Bool.not_eq_false', decide_eq_true_eq, decide_eq_false_iff_not, Decidable.not_not, refs_len, fms_len, bne_eq_false_iff_eq, beq_eq_false_iff_ne] at h) <;> (first | (exfalso; omega) | (conv => arg 1; ext i; whnf)))
  · exact Evx.pure rfl
  · (refine Evx.bool (fun h => ?_) (fun h => ?_) <;> (try simp only [hold_eq, seq_dec, bne_iff_ne, beq_iff_eq, ne_eq, Bool.not_eq_true', Bool.not_eq_false', decide_eq_true_eq, decide_eq_false_iff_not, Decidable.not_not, refs_len, fms_len, bne_eq_false_iff_eq, beq_eq_false_iff_ne] at h) <;> (first | (exfalso; omega) | (conv => arg 1; ext i; whnf)))
    · exact Evx.pure rfl
    · refine Evx.int (n' := n + 1) (by rw [wrap_small] <;> omega) ?_
      (conv => arg 1; ext i; whnf)
      refine Evx.call (valid_ev t (n + 1) ht) ?_
      (conv => arg 1; ext i; whnf)
      (refine Evx.bool (fun h => ?_) (fun h => ?_) <;> (try simp only [hold_eq, seq_dec, bne_iff_ne, beq_iff_eq, ne_eq, Bool.not_eq_true', Bool.not_eq_false', decide_eq_true_eq, decide_eq_false_iff_not, Decidable.not_not, refs_len, fms_len, bne_eq_false_iff_eq, beq_eq_false_iff_ne] at h) <;> (first | (exfalso; omega) | (conv => arg 1; ext i; whnf)))
      · exact Evx.pure rfl
      · refine Evx.call (rsymbol_ev s hs) ?_
        (conv => arg 1; ext i; whnf)
        (refine Evx.bool (fun h => ?_) (fun h => ?_) <;> (try simp only [hold_eq, seq_dec, bne_iff_ne, beq_iff_eq, ne_eq, Bool.not_eq_true', Bool.not_eq_false', decide_eq_true_eq, decide_eq_false_iff_not, Decidable.not_not, refs_len, fms_len, bne_eq_false_iff_eq, beq_eq_false_iff_ne] at h) <;> (first | (exfalso; omega) | (conv => arg 1; ext i; whnf)))
        · exact Evx.pure rfl
        · have hq : (⟨2, 0, s⟩ : Rf).nm.size < 2 ^ 30 := hs
          have hok : (t.mapR (substC ⟨2, 0, s⟩) 0).ok := mapR_ok (fun r n h => substC_nm _ hq r n h) t 0 ht
          have hv : (t.mapR (substC ⟨2, 0, s⟩) 0).valid n = true := by
            obtain ⟨h1, h2, h3⟩ := valid_parts (by assumption : t.valid (n + 1) = true)
            unfold Fm.valid
            rw [mapR_size, mapR_depth, show clamp n = clamp (n + 1) - 1 by unfold clamp; omega]
            rw [formed_map (fun r v k a1 a2 a3 a4 a5 => close_ref (by assumption) a1 a2 a3 a4 a5) t (clamp (n + 1)) 0 h3 (by omega) (by unfold clamp; omega) (by omega) (by unfold clamp; omega)]
            simp [h1, h2]
          have k1 : Ev pr 14 [t.mapD (substC ⟨2, 0, s⟩) 0, .int .i64 n] (.ret [.d (.bool true)]) := by
            rw [← mapR_d, ← hv]; exact valid_ev _ n hok
          have k2 : Ev pr 29 [t.mapD (substC ⟨2, 0, s⟩) 0] (.ret [.d (.int .i64 t.size)]) := by
            rw [← mapR_d, ← mapR_size (substC ⟨2, 0, s⟩) t 0]; exact pSize_ev _ hok
          have k3 : Ev pr 30 [t.mapD (substC ⟨2, 0, s⟩) 0] (.ret [.d (.int .i64 t.depth)]) := by
            rw [← mapR_d, ← mapR_depth (substC ⟨2, 0, s⟩) t 0]; exact pDepth_ev _ hok
          refine Evx.call (subst_ev t ⟨2, 0, s⟩ ht) ?_
          (conv => arg 1; ext i; whnf)
          refine Evx.call k1 ?_
          (conv => arg 1; ext i; whnf)
          refine Evx.call k2 ?_
          (conv => arg 1; ext i; whnf)
          refine Evx.call (pSize_ev t ht) ?_
          (conv => arg 1; ext i; whnf)
          (refine Evx.bool (fun h => ?_) (fun h => ?_) <;> (try simp only [hold_eq, seq_dec, bne_iff_ne, beq_iff_eq, ne_eq, Bool.not_eq_true', Bool.not_eq_false', decide_eq_true_eq, decide_eq_false_iff_not, Decidable.not_not, refs_len, fms_len, bne_eq_false_iff_eq, beq_eq_false_iff_ne] at h) <;> (first | (exfalso; omega) | (conv => arg 1; ext i; whnf)))
          · refine Evx.call k3 ?_
            (conv => arg 1; ext i; whnf)
            refine Evx.call (pDepth_ev t ht) ?_
            (conv => arg 1; ext i; whnf)
            refine Evx.pure ?_
            simp [hold_eq]
          · exact absurd trivial h

/-- THE LAW of cancelling. -/
theorem cancelsLaw_ev (t : Fm) (q : Rf) (a b : Int) (ht : t.ok) (hq : q.nm.size < 2 ^ 30) : Ev pr 10 [t.d, q.d, .int .i64 a, .int .i64 b] (.ret [.d (.bool true)]) := by
  apply Ev.enter; intro c; (conv => arg 1; ext i; whnf)
  refine Evx.call awake22_ev ?_
  (conv => arg 1; ext i; whnf)
  refine Evx.call (rvalid_ev t _ ht) ?_
  (conv => arg 1; ext i; whnf)
  (refine Evx.bool (fun h => ?_) (fun h => ?_) <;> (try simp only [hold_eq, seq_dec, bne_iff_ne, beq_iff_eq, ne_eq, Bool.not_eq_true', Bool.not_eq_false', decide_eq_true_eq, decide_eq_false_iff_not, Decidable.not_not, refs_len, fms_len, bne_eq_false_iff_eq, beq_eq_false_iff_ne] at h) <;> (first | (exfalso; omega) | (conv => arg 1; ext i; whnf)))
  · exact Evx.pure rfl
  · refine Evx.call (rref_ev q _ hq) ?_
    (conv => arg 1; ext i; whnf)
    (refine Evx.bool (fun h => ?_) (fun h => ?_) <;> (try simp only [hold_eq, seq_dec, bne_iff_ne, beq_iff_eq, ne_eq, Bool.not_eq_true', Bool.not_eq_false', decide_eq_true_eq, decide_eq_false_iff_not, Decidable.not_not, refs_len, fms_len, bne_eq_false_iff_eq, beq_eq_false_iff_ne] at h) <;> (first | (exfalso; omega) | (conv => arg 1; ext i; whnf)))
    · exact Evx.pure rfl
    · repeat' (first | exact Evx.pure rfl | (refine Evx.bool (fun h => ?_) (fun h => ?_) <;> (try simp only [hold_eq, seq_dec, bne_iff_ne, beq_iff_eq, ne_eq, Bool.not_eq_true', Bool.not_eq_false', decide_eq_true_eq, decide_eq_false_iff_not, Decidable.not_not, refs_len, fms_len, bne_eq_false_iff_eq, beq_eq_false_iff_ne] at h) <;> (first | (exfalso; omega) | (conv => arg 1; ext i; whnf))))
      obtain ⟨h1, h2, h3⟩ := valid_parts (by assumption : t.valid 1048576 = true)
      have hc := clamp_ok 1048576
      have e1 : (t.mapR (shiftC 0 1) 0).mapR (substC q) 0 = t := by
        rw [mapR_mapR (ch'' := fun r _ => r) (fun r v k b1 b2 b3 b4 => cancel_ref b1 b2 b3 b4) t _ 0 h3 (by omega) (by omega) (by omega), mapR_id]
      have e2 : (t.mapR (shiftC 0 a) 0).mapR (shiftC 0 b) 0 = t.mapR (shiftC 0 (a + b)) 0 :=
        mapR_mapR (fun r v k b1 b2 b3 b4 => add_ref (by omega) (by omega) (by omega) (by omega) b1 b2 b3 b4) t _ 0 h3 (by omega) (by omega) (by omega)
      have o1 : ∀ c d, (t.mapR (shiftC c d) 0).ok := fun c d => mapR_ok (fun r n h => by rw [shiftC_nm]; exact h) t 0 ht
      have k1 : Ev pr 26 [t.mapD (shiftC 0 1) 0, q.d] (.ret [.d t.d]) := by
        have := subst_ev (t.mapR (shiftC 0 1) 0) q (o1 0 1)
        rw [← mapR_d, e1] at this
        rwa [← mapR_d]
      have k2 : Ev pr 23 [t.mapD (shiftC 0 a) 0, .int .i64 b, .int .i64 0] (.ret [.d (t.mapD (shiftC 0 (a + b)) 0)]) := by
        have := shift_ev (t.mapR (shiftC 0 a) 0) b 0 (o1 0 a)
        rw [← mapR_d, e2] at this
        rw [← mapR_d, ← mapR_d]
        exact this
      have k3 : Ev pr 20 [t.mapD (shiftC 0 (a + b)) 0, t.mapD (shiftC 0 (a + b)) 0] (.ret [.d (.bool true)]) := by
        rw [← mapR_d]; exact same_self_ev _ (o1 0 (a + b))
      refine Evx.call (shift_ev t 1 0 ht) ?_
      (conv => arg 1; ext i; whnf)
      refine Evx.call k1 ?_
      (conv => arg 1; ext i; whnf)
      refine Evx.call (same_self_ev t ht) ?_
      (conv => arg 1; ext i; whnf)
      refine Evx.call (shift_ev t a 0 ht) ?_
      (conv => arg 1; ext i; whnf)
      refine Evx.call k2 ?_
      (conv => arg 1; ext i; whnf)
      refine Evx.int (n' := a + b) (by rw [wrap_small] <;> omega) ?_
      (conv => arg 1; ext i; whnf)
      refine Evx.call (shift_ev t (a + b) 0 ht) ?_
      (conv => arg 1; ext i; whnf)
      refine Evx.call k3 ?_
      (conv => arg 1; ext i; whnf)
      exact Evx.pure rfl
end Go.Proofs.YtehkgiofchmpaaaDoor
