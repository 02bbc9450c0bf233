/- Round 22 walked: what is valid, and the law of it. -/
import Derived.Test.YtehkgiofchmpaaaDoorW22
import Derived.Test.YtehkgiofchmpaaaDoorA22
namespace Go.Proofs.YtehkgiofchmpaaaDoor
open Go Go.Abs Go.Abs.Asks
set_option linter.unusedVariables false
set_option linter.unusedSimpArgs false
set_option linter.unusedSectionVars false
variable [Asks]

theorem rfields_ev (t : Fm) (n : Int) (ht : t.ok) : Ev pr 70 [t.d, .int .i64 n] (.ret [.d (.bool (fieldsOk t n))]) := by
  have has := ht.as
  apply Ev.enter; intro k; (conv => arg 1; ext i; whnf)
  repeat' (first | refine Evx.pure ?_ | (refine Evx.bool (fun h => ?_) (fun h => ?_) <;> (try simp only [hold_eq, seq_dec, bne_iff_ne, beq_iff_eq, ne_eq, Bool.not_eq_true', Bool.not_eq_false', decide_eq_true_eq, decide_eq_false_iff_not, Decidable.not_not, refs_len, fms_len, bne_eq_false_iff_eq, beq_eq_false_iff_ne] at h) <;> (first | (exfalso; omega) | (conv => arg 1; ext i; whnf))) | (refine Evx.call (rsymbol_ev t.nm ht.nm) ?_; (conv => arg 1; ext i; whnf)) | (refine Evx.call (rmoment_ev _) ?_; (conv => arg 1; ext i; whnf)) | (
    refine (Evx.loop hint70 9 (α := Nat) (fun a => [some (.d (.int .i64 n)), some (.ptr 1 2 0), some (.d (.int .i64 a))]) (fun a => [some (fmBox t)]) 1 [] (fun a => t.as.length - a) (fun a => .ret [.d (.bool (argsOk t n a))]) (by
      intro a bx L ih; (conv => arg 1; ext i; whnf)
      refine Evx.bool (fun h2 => ?_) (fun h2 => ?_)
      · have h2 := hold_true.1 h2
        simp only [refs_len, decide_eq_true_eq] at h2
        obtain ⟨x, hx⟩ := get_some (l := t.as) (i := a) (by omega)
        (conv => arg 1; ext i; whnf)
        refine Evx.idx rfl (refs_get hx) ?_
        (conv => arg 1; ext i; whnf)
        refine Evx.call (rref_ev x n (ht.rf hx)) ?_
        (conv => arg 1; ext i; whnf)
        refine Evx.bool (fun h3 => ?_) (fun h3 => ?_)
        · (conv => arg 1; ext i; whnf)
          simp only [Bool.not_eq_true'] at h3
          refine Evx.pure ?_
          unfold argsOk
          rw [drop_cons hx]; simp [h3]
        · (conv => arg 1; ext i; whnf)
          simp only [Bool.not_eq_false'] at h3
          refine Evx.int (wrap_succ (by omega)) ?_
          (conv => arg 1; ext i; whnf)
          refine (ih (a + 1) _ (by omega) (fun _ => by kernel_rfl)).to ?_
          unfold argsOk
          rw [drop_cons hx]; simp [h3]
      · have h2 := hold_false.1 h2
        simp only [refs_len, decide_eq_false_iff_not] at h2
        (conv => arg 1; ext i; whnf)
        unfold argsOk
        rw [List.drop_eq_nil_of_le (by omega)]
        repeat' (first | refine Evx.pure ?_ | (refine Evx.bool (fun h => ?_) (fun h => ?_) <;> (try simp only [hold_eq, seq_dec, bne_iff_ne, beq_iff_eq, ne_eq, Bool.not_eq_true', Bool.not_eq_false', decide_eq_true_eq, decide_eq_false_iff_not, Decidable.not_not, refs_len, fms_len, bne_eq_false_iff_eq, beq_eq_false_iff_ne] at h) <;> (first | (exfalso; omega) | (conv => arg 1; ext i; whnf))) | (refine Evx.call (rsymbol_ev t.nm ht.nm) ?_; (conv => arg 1; ext i; whnf)))
        all_goals refine bool_out ?_
        all_goals try simp only [hold_eq, seq_dec, fms_len, refs_len] at *
        all_goals simp_all
        all_goals first | omega | (simp only [show 1 ≤ t.as.length by omega, show t.as.length ≤ 3 by omega, and_true])) 0 (fun _ => rfl) (fun _ => rfl) (fun _ => rfl) (fun _ => by kernel_rfl)).to ?_))
  all_goals refine bool_out ?_
  all_goals try simp only [hold_eq, seq_dec, fms_len, refs_len] at *
  all_goals simp_all [fieldsOk, argsOk, bindsB, momentB, Go.Abs.emp]
  all_goals omega

theorem formeds_cons (x : Fm) (xs : List Fm) (n : Int) : formeds (x :: xs) n = (x.formed n && formeds xs n) := by simp only [formeds]
theorem formeds_nil (n : Int) : formeds [] n = true := by simp only [formeds]

theorem formed_ev (t : Fm) : ∀ n : Int, t.ok → 0 ≤ n → n + t.depth < 2 ^ 61 → Ev pr 36 [t.d, .int .i64 n] (.ret [.d (.bool (t.formed n))]) := by
  induction t using Fm.rec' with
  | _ t ih =>
    intro n ht hn hb
    have hk := ht.ks
    have hd := t.depth_eq
    have kd : ∀ (i : Nat) x, t.ks[i]? = some x → x.depth + 1 ≤ t.depth := fun i x hx => by
      have := fdepths_take hx
      have := fdepths_take_le t.ks (i + 1)
      omega
    have loop : ∀ (m : Int), under t n = m → fieldsOk t n = true → True := fun _ _ _ => trivial
    apply Ev.enter; intro c; (conv => arg 1; ext i; whnf)
    refine Evx.call (fields_ev t n ht) ?_
    (conv => arg 1; ext i; whnf)
    (refine Evx.bool (fun h => ?_) (fun h => ?_) <;> (try simp only [hold_eq, seq_dec, bne_iff_ne, beq_iff_eq, ne_eq, Bool.not_eq_true', Bool.not_eq_false', decide_eq_true_eq, decide_eq_false_iff_not, Decidable.not_not, refs_len, fms_len, bne_eq_false_iff_eq, beq_eq_false_iff_ne] at h) <;> (first | (exfalso; omega) | (conv => arg 1; ext i; whnf)))
    · refine Evx.pure ?_
      rw [t.formed_eq]; simp_all
    · refine Evx.call (binds_ev t.op) ?_
      (conv => arg 1; ext i; whnf)
      have fin : ∀ (m : Int), under t n = m → t.formed n = formeds t.ks m := fun m hm => by rw [t.formed_eq, hm]; simp_all
      (refine Evx.bool (fun h => ?_) (fun h => ?_) <;> (try simp only [hold_eq, seq_dec, bne_iff_ne, beq_iff_eq, ne_eq, Bool.not_eq_true', Bool.not_eq_false', decide_eq_true_eq, decide_eq_false_iff_not, Decidable.not_not, refs_len, fms_len, bne_eq_false_iff_eq, beq_eq_false_iff_ne] at h) <;> (first | (exfalso; omega) | (conv => arg 1; ext i; whnf)))
      · have hu : under t n = n + 1 := by unfold under; simp_all
        refine Evx.int (n' := n + 1) (by rw [wrap_small] <;> omega) ?_
        (conv => arg 1; ext i; whnf)
        rw [fin _ hu]
        refine (Evx.loop hint36 6 (α := Nat) (fun a => [some (.d (.int .i64 (n + 1))), some (.d (.sl 6 (fms t.ks))), some (.d (.int .i64 (fms t.ks).length)), some (.d (.int .i64 a))]) (fun a => []) 1 [] (fun a => t.ks.length - a) (fun a => .ret [.d (.bool (formeds (t.ks.drop a) (n + 1)))]) ?_ 0 (fun _ => rfl) (fun _ => rfl) (fun _ => rfl) (fun _ => by kernel_rfl)).to rfl
        intro a bx L ih'; (conv => arg 1; ext i; whnf)
        (refine Evx.bool (fun h => ?_) (fun h => ?_) <;> (try simp only [hold_eq, seq_dec, bne_iff_ne, beq_iff_eq, ne_eq, Bool.not_eq_true', Bool.not_eq_false', decide_eq_true_eq, decide_eq_false_iff_not, Decidable.not_not, refs_len, fms_len, bne_eq_false_iff_eq, beq_eq_false_iff_ne] at h) <;> (first | (exfalso; omega) | (conv => arg 1; ext i; whnf)))
        · obtain ⟨x, hx⟩ := get_some (l := t.ks) (i := a) (by omega)
          have := kd a x hx
          refine Evx.idx rfl (fms_get hx) ?_
          (conv => arg 1; ext i; whnf)
          refine Evx.call (ih a x hx (n + 1) (ht.kid hx) (by omega) (by omega)) ?_
          (conv => arg 1; ext i; whnf)
          (refine Evx.bool (fun h => ?_) (fun h => ?_) <;> (try simp only [hold_eq, seq_dec, bne_iff_ne, beq_iff_eq, ne_eq, Bool.not_eq_true', Bool.not_eq_false', decide_eq_true_eq, decide_eq_false_iff_not, Decidable.not_not, refs_len, fms_len, bne_eq_false_iff_eq, beq_eq_false_iff_ne] at h) <;> (first | (exfalso; omega) | (conv => arg 1; ext i; whnf)))
          · refine Evx.pure ?_
            rw [drop_cons hx, formeds_cons]; simp_all
          · refine Evx.int (wrap_succ (by omega)) ?_
            (conv => arg 1; ext i; whnf)
            refine (ih' (a + 1) _ (by omega) (fun _ => by kernel_rfl)).to ?_
            rw [drop_cons hx, formeds_cons]; simp_all
        · refine Evx.pure ?_
          rw [List.drop_eq_nil_of_le (by omega), formeds_nil]
      · have hu : under t n = n := by unfold under; simp_all
        rw [fin _ hu]
        refine (Evx.loop hint36 6 (α := Nat) (fun a => [some (.d (.int .i64 n)), some (.d (.sl 6 (fms t.ks))), some (.d (.int .i64 (fms t.ks).length)), some (.d (.int .i64 a))]) (fun a => []) 1 [] (fun a => t.ks.length - a) (fun a => .ret [.d (.bool (formeds (t.ks.drop a) n))]) ?_ 0 (fun _ => rfl) (fun _ => rfl) (fun _ => rfl) (fun _ => by kernel_rfl)).to rfl
        intro a bx L ih'; (conv => arg 1; ext i; whnf)
        (refine Evx.bool (fun h => ?_) (fun h => ?_) <;> (try simp only [hold_eq, seq_dec, bne_iff_ne, beq_iff_eq, ne_eq, Bool.not_eq_true', Bool.not_eq_false', decide_eq_true_eq, decide_eq_false_iff_not, Decidable.not_not, refs_len, fms_len, bne_eq_false_iff_eq, beq_eq_false_iff_ne] at h) <;> (first | (exfalso; omega) | (conv => arg 1; ext i; whnf)))
        · obtain ⟨x, hx⟩ := get_some (l := t.ks) (i := a) (by omega)
          have := kd a x hx
          refine Evx.idx rfl (fms_get hx) ?_
          (conv => arg 1; ext i; whnf)
          refine Evx.call (ih a x hx n (ht.kid hx) (by omega) (by omega)) ?_
          (conv => arg 1; ext i; whnf)
          (refine Evx.bool (fun h => ?_) (fun h => ?_) <;> (try simp only [hold_eq, seq_dec, bne_iff_ne, beq_iff_eq, ne_eq, Bool.not_eq_true', Bool.not_eq_false', decide_eq_true_eq, decide_eq_false_iff_not, Decidable.not_not, refs_len, fms_len, bne_eq_false_iff_eq, beq_eq_false_iff_ne] at h) <;> (first | (exfalso; omega) | (conv => arg 1; ext i; whnf)))
          · refine Evx.pure ?_
            rw [drop_cons hx, formeds_cons]; simp_all
          · refine Evx.int (wrap_succ (by omega)) ?_
            (conv => arg 1; ext i; whnf)
            refine (ih' (a + 1) _ (by omega) (fun _ => by kernel_rfl)).to ?_
            rw [drop_cons hx, formeds_cons]; simp_all
        · refine Evx.pure ?_
          rw [List.drop_eq_nil_of_le (by omega), formeds_nil]

theorem inside_ev (t : Fm) (n : Int) (hn : 0 ≤ n) (hb : n < 2 ^ 61) : Ev pr 69 [t.d, .int .i64 n] (.ret [.d (.int .i64 (under t n))]) := by
  apply Ev.enter; intro c; (conv => arg 1; ext i; whnf)
  refine Evx.call (rbinds_ev t.op) ?_
  (conv => arg 1; ext i; whnf)
  (refine Evx.bool (fun h => ?_) (fun h => ?_) <;> (try simp only [hold_eq, seq_dec, bne_iff_ne, beq_iff_eq, ne_eq, Bool.not_eq_true', Bool.not_eq_false', decide_eq_true_eq, decide_eq_false_iff_not, Decidable.not_not, refs_len, fms_len, bne_eq_false_iff_eq, beq_eq_false_iff_ne] at h) <;> (first | (exfalso; omega) | (conv => arg 1; ext i; whnf)))
  · refine Evx.int (n' := n + 1) (by rw [wrap_small] <;> omega) ?_
    (conv => arg 1; ext i; whnf)
    refine Evx.pure ?_
    unfold under; simp_all
  · refine Evx.pure ?_
    unfold under; simp_all

theorem rformed_ev (t : Fm) : ∀ n : Int, t.ok → 0 ≤ n → n + t.depth < 2 ^ 61 → Ev pr 39 [t.d, .int .i64 n] (.ret [.d (.bool (t.formed n))]) := by
  induction t using Fm.rec' with
  | _ t ih =>
    intro n ht hn hb
    have hk := ht.ks
    have hd := t.depth_eq
    have kd : ∀ (i : Nat) x, t.ks[i]? = some x → x.depth + 1 ≤ t.depth := fun i x hx => by
      have := fdepths_take hx
      have := fdepths_take_le t.ks (i + 1)
      omega
    have hu : under t n ≤ n + 1 ∧ 0 ≤ under t n := by unfold under; split <;> omega
    apply Ev.enter; intro c; (conv => arg 1; ext i; whnf)
    refine (Evx.loop hint39 2 (α := Nat) (fun a => [some (.d (.int .i64 n)), some (.ptr 1 2 0), some (.d (.int .i64 a))]) (fun a => [some (fmBox t)]) 1 [] (fun a => t.ks.length - a) (fun a => .ret [.d (.bool (formeds (t.ks.drop a) (under t n) && fieldsOk t n))]) ?_ 0 (fun _ => rfl) (fun _ => rfl) (fun _ => rfl) (fun _ => by kernel_rfl)).to (by rw [t.formed_eq, List.drop_zero, Bool.and_comm])
    intro a bx L ih'; (conv => arg 1; ext i; whnf)
    (refine Evx.bool (fun h => ?_) (fun h => ?_) <;> (try simp only [hold_eq, seq_dec, bne_iff_ne, beq_iff_eq, ne_eq, Bool.not_eq_true', Bool.not_eq_false', decide_eq_true_eq, decide_eq_false_iff_not, Decidable.not_not, refs_len, fms_len, bne_eq_false_iff_eq, beq_eq_false_iff_ne] at h) <;> (first | (exfalso; omega) | (conv => arg 1; ext i; whnf)))
    · obtain ⟨x, hx⟩ := get_some (l := t.ks) (i := a) (by omega)
      have := kd a x hx
      refine Evx.idx rfl (fms_get hx) ?_
      (conv => arg 1; ext i; whnf)
      refine Evx.call (inside_ev t n hn (by omega)) ?_
      (conv => arg 1; ext i; whnf)
      refine Evx.call (ih a x hx (under t n) (ht.kid hx) (by omega) (by omega)) ?_
      (conv => arg 1; ext i; whnf)
      (refine Evx.bool (fun h => ?_) (fun h => ?_) <;> (try simp only [hold_eq, seq_dec, bne_iff_ne, beq_iff_eq, ne_eq, Bool.not_eq_true', Bool.not_eq_false', decide_eq_true_eq, decide_eq_false_iff_not, Decidable.not_not, refs_len, fms_len, bne_eq_false_iff_eq, beq_eq_false_iff_ne] at h) <;> (first | (exfalso; omega) | (conv => arg 1; ext i; whnf)))
      · refine Evx.pure ?_
        rw [drop_cons hx, formeds_cons]; simp_all
      · refine Evx.int (wrap_succ (by omega)) ?_
        (conv => arg 1; ext i; whnf)
        refine (ih' (a + 1) _ (by omega) (fun _ => by kernel_rfl)).to ?_
        rw [drop_cons hx, formeds_cons]; simp_all
    · refine Evx.call (rfields_ev t n ht) ?_
      (conv => arg 1; ext i; whnf)
      refine Evx.pure ?_
      rw [List.drop_eq_nil_of_le (by omega), formeds_nil, Bool.true_and]

def limitsB (t : Fm) : Bool := decide (t.size ≤ 200) && decide (t.depth ≤ 32)
theorem limits_ev (t : Fm) (ht : t.ok) : Ev pr 35 [t.d] (.ret [.d (.bool (limitsB t))]) := by
  apply Ev.enter; intro c; (conv => arg 1; ext i; whnf)
  repeat' (first | refine Evx.pure ?_ | (refine Evx.bool (fun h => ?_) (fun h => ?_) <;> (try simp only [hold_eq, seq_dec, bne_iff_ne, beq_iff_eq, ne_eq, Bool.not_eq_true', Bool.not_eq_false', decide_eq_true_eq, decide_eq_false_iff_not, Decidable.not_not, refs_len, fms_len, bne_eq_false_iff_eq, beq_eq_false_iff_ne] at h) <;> (first | (exfalso; omega) | (conv => arg 1; ext i; whnf))) | (refine Evx.call (pSize_ev t ht) ?_; (conv => arg 1; ext i; whnf)) | (refine Evx.call (pDepth_ev t ht) ?_; (conv => arg 1; ext i; whnf)))
  all_goals refine bool_out ?_
  all_goals try simp only [hold_eq, seq_dec] at *
  all_goals simp_all [limitsB]
  all_goals omega

theorem clamp_ok (n : Int) : 0 ≤ clamp n ∧ clamp n ≤ 1099511627776 := by unfold clamp; omega
theorem depth_small {t : Fm} (ht : t.ok) : (t.depth : Int) < 2 ^ 31 := by have := depth_cnt t; have := ht.1; omega

theorem valid_ev (t : Fm) (n : Int) (ht : t.ok) : Ev pr 14 [t.d, .int .i64 n] (.ret [.d (.bool (t.valid n))]) := by
  have hc := clamp_ok n
  have hd := depth_small ht
  apply Ev.enter; intro c; (conv => arg 1; ext i; whnf)
  refine Evx.call (limits_ev t ht) ?_
  (conv => arg 1; ext i; whnf)
  (refine Evx.bool (fun h => ?_) (fun h => ?_) <;> (try simp only [hold_eq, seq_dec, bne_iff_ne, beq_iff_eq, ne_eq, Bool.not_eq_true', Bool.not_eq_false', decide_eq_true_eq, decide_eq_false_iff_not, Decidable.not_not, refs_len, fms_len, bne_eq_false_iff_eq, beq_eq_false_iff_ne] at h) <;> (first | (exfalso; omega) | (conv => arg 1; ext i; whnf)))
  · refine Evx.int (n' := max n 0) (by simp only [extI]; split <;> simp_all <;> omega) ?_
    (conv => arg 1; ext i; whnf)
    refine Evx.int (n' := clamp n) (by simp only [extI, clamp]; split <;> simp_all <;> omega) ?_
    (conv => arg 1; ext i; whnf)
    refine Evx.call (formed_ev t (clamp n) ht hc.1 (by omega)) ?_
    (conv => arg 1; ext i; whnf)
    refine Evx.pure ?_
    refine bool_out ?_
    simp_all [Fm.valid, limitsB]
  · refine Evx.pure ?_
    refine bool_out ?_
    simp_all [Fm.valid, limitsB]
    omega

theorem rvalid_ev (t : Fm) (n : Int) (ht : t.ok) : Ev pr 15 [t.d, .int .i64 n] (.ret [.d (.bool (t.valid n))]) := by
  have hc := clamp_ok n
  have hd := depth_small ht
  have key : ∀ m, m = clamp n → Ev pr 39 [t.d, .int .i64 m] (.ret [.d (.bool (t.formed (clamp n)))]) := fun m hm => by
    rw [hm]; exact rformed_ev t (clamp n) ht hc.1 (by omega)
  apply Ev.enter; intro c; (conv => arg 1; ext i; whnf)
  repeat' (first | refine Evx.pure ?_ | (refine Evx.bool (fun h => ?_) (fun h => ?_) <;> (try simp only [hold_eq, seq_dec, bne_iff_ne, beq_iff_eq, ne_eq, Bool.not_eq_true', Bool.not_eq_false', decide_eq_true_eq, decide_eq_false_iff_not, Decidable.not_not, refs_len, fms_len, bne_eq_false_iff_eq, beq_eq_false_iff_ne] at h) <;> (first | (exfalso; omega) | (conv => arg 1; ext i; whnf))) | (refine Evx.call (rSize_ev t ht) ?_; (conv => arg 1; ext i; whnf)) | (refine Evx.call (rDepth_ev t ht) ?_; (conv => arg 1; ext i; whnf)) | (refine Evx.call (key _ (by unfold clamp; omega)) ?_; (conv => arg 1; ext i; whnf)))
  all_goals refine bool_out ?_
  all_goals try simp only [hold_eq, seq_dec] at *
  all_goals simp_all [Fm.valid, limitsB]
  all_goals omega

theorem any_ev (t : Fm) (ht : t.ok) : Ev pr 16 [t.d] (.ret [.d (.bool (t.valid 1099511627776))]) := by
  apply Ev.enter; intro c; (conv => arg 1; ext i; whnf)
  refine Evx.call (rvalid_ev t _ ht) ?_
  (conv => arg 1; ext i; whnf)
  exact Evx.pure rfl

/-- THE LAW of Valid. -/
theorem validLaw_ev (t : Fm) (n : Int) (ht : t.ok) : Ev pr 3 [t.d, .int .i64 n] (.ret [.d (.bool true)]) := by
  apply Ev.enter; intro c; (conv => arg 1; ext i; whnf)
  refine Evx.call awake22_ev ?_
  (conv => arg 1; ext i; whnf)
  refine Evx.call (valid_ev t n ht) ?_
  (conv => arg 1; ext i; whnf)
  refine Evx.call (rvalid_ev t n ht) ?_
  (conv => arg 1; ext i; whnf)
  refine Evx.pure ?_
  simp [hold_eq]
end Go.Proofs.YtehkgiofchmpaaaDoor
