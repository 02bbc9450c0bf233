/- The reference's order once more, where the bytes of names are not bounded; the law of Substitute. -/
import Derived.Test.YtehkgiofchmpaaaDoorL22b
namespace Go.Proofs.YtehkgiofchmpaaaDoor
open Go Go.Abs Go.Abs.Asks
set_option linter.unusedVariables false
set_option linter.unusedSimpArgs false
set_option linter.unusedSectionVars false
variable [Asks]

theorem same_self_ev (t : Fm) (ht : t.ok) : Ev pr 20 [t.d, t.d] (.ret [.d (.bool true)]) := by
  have := rsame_ev t t ht ht
  rwa [cmp_self] at this

theorem rSubst_ev (t : Fm) (q : Rf) (ht : t.ok) : Ev pr 27 [t.d, q.d] (.ret [.d (t.mapD (substC q) 0)]) := by
  have hd := depth_small ht
  apply Ev.enter; intro k; (conv => arg 1; ext i; whnf)
  refine Evx.call (rreplace_ev q t 0 ht (by omega) (by omega)) ?_
  (conv => arg 1; ext i; whnf)
  exact Evx.pure rfl

/-- THE LAW of Substitute. -/
theorem substitutesLaw_ev (t : Fm) (q : Rf) (ht : t.ok) (hq : q.nm.size < 2 ^ 30) : Ev pr 8 [t.d, q.d] (.ret [.d (.bool true)]) := by
  apply Ev.enter; intro c; (conv => arg 1; ext i; whnf)
  refine Evx.call awake22_ev ?_
  (conv => arg 1; ext i; whnf)
  refine Evx.call (any_ev t ht) ?_
  (conv => arg 1; ext i; whnf)
  (refine Evx.bool (fun h => ?_) (fun h => ?_) <;> (try simp only [hold_eq, seq_dec, bne_iff_ne, beq_iff_eq, ne_eq, Bool.not_eq_true', Bool.not_eq_false', decide_eq_true_eq, decide_eq_false_iff_not, Decidable.not_not, refs_len, fms_len, bne_eq_false_iff_eq, beq_eq_false_iff_ne] at h) <;> (first | (exfalso; omega) | (conv => arg 1; ext i; whnf)))
  · exact Evx.pure rfl
  · refine Evx.call (rref_ev q _ hq) ?_
    (conv => arg 1; ext i; whnf)
    (refine Evx.bool (fun h => ?_) (fun h => ?_) <;> (try simp only [hold_eq, seq_dec, bne_iff_ne, beq_iff_eq, ne_eq, Bool.not_eq_true', Bool.not_eq_false', decide_eq_true_eq, decide_eq_false_iff_not, Decidable.not_not, refs_len, fms_len, bne_eq_false_iff_eq, beq_eq_false_iff_ne] at h) <;> (first | (exfalso; omega) | (conv => arg 1; ext i; whnf)))
    · exact Evx.pure rfl
    · refine Evx.call (subst_ev t q ht) ?_
      (conv => arg 1; ext i; whnf)
      refine Evx.call (rSubst_ev t q ht) ?_
      (conv => arg 1; ext i; whnf)
      have key : Ev pr 20 [t.mapD (substC q) 0, t.mapD (substC q) 0] (.ret [.d (.bool true)]) := by
        rw [← mapR_d]
        exact same_self_ev _ (mapR_ok (fun r n h => substC_nm q hq r n h) t 0 ht)
      refine Evx.call key ?_
      (conv => arg 1; ext i; whnf)
      exact Evx.pure rfl
end Go.Proofs.YtehkgiofchmpaaaDoor
