/- The law of Compare. -/
import Derived.Test.YtehkgiofchmpaaaDoorW22e
import Derived.Test.YtehkgiofchmpaaaDoorL22d
namespace Go.Proofs.YtehkgiofchmpaaaDoor
open Go Go.Abs Go.Abs.Asks
set_option linter.unusedVariables false
set_option linter.unusedSimpArgs false
set_option linter.unusedSectionVars false
variable [Asks]

/-- THE LAW of Compare. -/
theorem comparesLaw_ev (f g k : Fm) (hf : f.ok) (hg : g.ok) (hk : k.ok) : Ev pr 12 [f.d, g.d, k.d] (.ret [.d (.bool true)]) := by
  obtain ⟨a1, ⟨r1, r2, r3⟩, l, _⟩ := cmp_tri f g k
  have s1 := cmp_self f
  have w : IntKind.i64.wrap (0 - f.cmp g) = - f.cmp g := by
    rcases r1 with e | e | e <;> rw [e] <;> rfl
  apply Ev.enter; intro c; (conv => arg 1; ext i; whnf)
  refine Evx.call awake22_ev ?_
  (conv => arg 1; ext i; whnf)
  repeat' (first | refine Evx.pure ?_ | (refine Evx.bool (fun h => ?_) (fun h => ?_) <;> (try simp only [hold_eq, seq_dec, bne_iff_ne, beq_iff_eq, ne_eq, Bool.not_eq_true', Bool.not_eq_false', decide_eq_true_eq, decide_eq_false_iff_not, Decidable.not_not, refs_len, fms_len, bne_eq_false_iff_eq, beq_eq_false_iff_ne] at h) <;> (first | (exfalso; omega) | (conv => arg 1; ext i; whnf))) | (refine Evx.call (pcmp_ev f g hf hg) ?_; (conv => arg 1; ext i; whnf)) | (refine Evx.call (pcmp_ev g k hg hk) ?_; (conv => arg 1; ext i; whnf)) | (refine Evx.call (pcmp_ev f k hf hk) ?_; (conv => arg 1; ext i; whnf)) | (refine Evx.call (rcmp_ev f g hf hg) ?_; (conv => arg 1; ext i; whnf)) | (refine Evx.call (pcmp_ev g f hg hf) ?_; (conv => arg 1; ext i; whnf)) | (refine Evx.call (pcmp_ev f f hf hf) ?_; (conv => arg 1; ext i; whnf)) | (refine Evx.int (n' := - f.cmp g) (by first | exact w | omega) ?_; (conv => arg 1; ext i; whnf)))
  all_goals refine bool_out ?_
  all_goals (by_cases e1 : f.cmp g = 0 <;> by_cases e2 : g.cmp k = 0 <;> by_cases e3 : f.cmp k = 0 <;> first | (exfalso; exact h trivial) | (exfalso; omega) | (exfalso; rw [w] at *; omega) | (simp [hold_eq, e1, e2, e3]; done) | (rw [Bool.eq_iff_iff]; simp [hold_eq, e1, e2, e3]; done) | (simp only [hold_eq, beq_eq_false_iff_ne.2 e2, beq_eq_false_iff_ne.2 e3]; simp_all; done) | (simp only [hold_eq]; cases hA : (g.cmp k == 0) <;> cases hB : (f.cmp k == 0) <;> simp_all; done))
end Go.Proofs.YtehkgiofchmpaaaDoor
