/- The law of Shift. -/
import Derived.Test.YtehkgiofchmpaaaDoorW22f
namespace Go.Proofs.YtehkgiofchmpaaaDoor
open Go Go.Abs Go.Abs.Asks
set_option linter.unusedVariables false
set_option linter.unusedSimpArgs false
set_option linter.unusedSectionVars false

theorem shiftC_nm (frm by_ : Int) (r : Rf) (n : Int) : (shiftC frm by_ r n).nm.size = r.nm.size := by unfold shiftC; split <;> rfl
theorem rshiftC_nm (by_ : Int) (r : Rf) (n : Int) : (rshiftC by_ r n).nm.size = r.nm.size := by unfold rshiftC; split <;> rfl

variable [Asks]
def countB (n : Int) : Bool := decide (0 ≤ n) && decide (n ≤ 1099511627776)
theorem count_ev (n : Int) : Ev pr 22 [.int .i64 n] (.ret [.d (.bool (countB n))]) := by
  apply Ev.enter; intro k; (conv => arg 1; ext i; whnf)
  repeat' (first | refine Evx.pure ?_ | (refine Evx.bool (fun h => ?_) (fun h => ?_) <;> (try simp only [hold_eq, seq_dec, bne_iff_ne, beq_iff_eq, ne_eq, Bool.not_eq_true', Bool.not_eq_false', decide_eq_true_eq, decide_eq_false_iff_not, Decidable.not_not, refs_len, fms_len, bne_eq_false_iff_eq, beq_eq_false_iff_ne] at h) <;> (first | (exfalso; omega) | (conv => arg 1; ext i; whnf))))
  all_goals refine bool_out ?_
  all_goals try simp only [hold_eq, seq_dec] at *
  all_goals simp_all [countB]
  all_goals omega
theorem rShift_ev (t : Fm) (by_ frm : Int) (ht : t.ok) (h0 : 0 ≤ frm) (h1 : frm ≤ 1099511627776) : Ev pr 24 [t.d, .int .i64 by_, .int .i64 frm] (.ret [.d (t.mapD (rshiftC by_) frm)]) := by
  have hd := depth_small ht
  apply Ev.enter; intro k; (conv => arg 1; ext i; whnf)
  refine Evx.call (rshift_ev by_ t frm ht h0 (by omega)) ?_
  (conv => arg 1; ext i; whnf)
  exact Evx.pure rfl

theorem valid_parts {t : Fm} {n : Int} (h : t.valid n = true) : t.size ≤ 200 ∧ t.depth ≤ 32 ∧ t.formed (clamp n) = true := by
  unfold Fm.valid at h
  simp only [Bool.and_eq_true, decide_eq_true_eq] at h
  exact ⟨h.1.1, h.1.2, h.2⟩

/-- THE LAW of Shift. -/
theorem shiftsLaw_ev (t : Fm) (by_ frm : Int) (ht : t.ok) : Ev pr 7 [t.d, .int .i64 by_, .int .i64 frm] (.ret [.d (.bool true)]) := by
  apply Ev.enter; intro c; (conv => arg 1; ext i; whnf)
  refine Evx.call awake22_ev ?_
  (conv => arg 1; ext i; whnf)
  refine Evx.call (any_ev t ht) ?_
  (conv => arg 1; ext i; whnf)
  (refine Evx.bool (fun h => ?_) (fun h => ?_) <;> (try simp only [hold_eq, seq_dec, bne_iff_ne, beq_iff_eq, ne_eq, Bool.not_eq_true', Bool.not_eq_false', decide_eq_true_eq, decide_eq_false_iff_not, Decidable.not_not, refs_len, fms_len, bne_eq_false_iff_eq, beq_eq_false_iff_ne] at h) <;> (first | (exfalso; omega) | (conv => arg 1; ext i; whnf)))
  · exact Evx.pure rfl
  · have hv := h
    obtain ⟨_, h2, h3⟩ := valid_parts hv
    have hcl := clamp_ok 1099511627776
    refine Evx.call (count_ev by_) ?_
    (conv => arg 1; ext i; whnf)
    (refine Evx.bool (fun h => ?_) (fun h => ?_) <;> (try simp only [hold_eq, seq_dec, bne_iff_ne, beq_iff_eq, ne_eq, Bool.not_eq_true', Bool.not_eq_false', decide_eq_true_eq, decide_eq_false_iff_not, Decidable.not_not, refs_len, fms_len, bne_eq_false_iff_eq, beq_eq_false_iff_ne] at h) <;> (first | (exfalso; omega) | (conv => arg 1; ext i; whnf)))
    · exact Evx.pure rfl
    · refine Evx.call (count_ev frm) ?_
      (conv => arg 1; ext i; whnf)
      (refine Evx.bool (fun h => ?_) (fun h => ?_) <;> (try simp only [hold_eq, seq_dec, bne_iff_ne, beq_iff_eq, ne_eq, Bool.not_eq_true', Bool.not_eq_false', decide_eq_true_eq, decide_eq_false_iff_not, Decidable.not_not, refs_len, fms_len, bne_eq_false_iff_eq, beq_eq_false_iff_ne] at h) <;> (first | (exfalso; omega) | (conv => arg 1; ext i; whnf)))
      · exact Evx.pure rfl
      · have hf := h
        simp only [countB, Bool.and_eq_true, decide_eq_true_eq] at hf
        refine Evx.call (shift_ev t by_ frm ht) ?_
        (conv => arg 1; ext i; whnf)
        refine Evx.call (rShift_ev t by_ frm ht hf.1 hf.2) ?_
        (conv => arg 1; ext i; whnf)
        have hs := shift_same by_ frm hf.1 (by omega) t (clamp 1099511627776) 0 h3 (by omega) (by omega) (by omega)
        have hd : t.mapD (shiftC frm by_) 0 = t.mapD (rshiftC by_) frm := by
          rw [← mapR_d, ← mapR_d, hs]; simp
        have hok : (t.mapR (rshiftC by_) frm).ok := mapR_ok (fun r n h => by rw [rshiftC_nm]; exact h) t frm ht
        have key : Ev pr 20 [t.mapD (shiftC frm by_) 0, t.mapD (rshiftC by_) frm] (.ret [.d (.bool true)]) := by
          rw [hd, ← mapR_d]
          have := rsame_ev (t.mapR (rshiftC by_) frm) (t.mapR (rshiftC by_) frm) hok hok
          rwa [cmp_self] at this
        refine Evx.call key ?_
        (conv => arg 1; ext i; whnf)
        exact Evx.pure rfl
end Go.Proofs.YtehkgiofchmpaaaDoor
