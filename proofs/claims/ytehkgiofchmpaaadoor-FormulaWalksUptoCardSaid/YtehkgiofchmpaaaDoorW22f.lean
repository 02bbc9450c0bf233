/- Round 22 walked: references changed: rebuild, Shift, Substitute, and their references. -/
import Derived.Test.YtehkgiofchmpaaaDoorW22b
import Derived.Test.YtehkgiofchmpaaaDoorW22c
namespace Go.Proofs.YtehkgiofchmpaaaDoor
open Go Go.Abs Go.Abs.Asks
set_option linter.unusedVariables false
set_option linter.unusedSimpArgs false
set_option linter.unusedSectionVars false
variable [Asks]

theorem shiftB_ev (frm by_ : Int) (E : ∀ (r : Rf) (n : Int), r.nm.size < 2 ^ 30 → Ev pr 49 ([r.d, .int .i64 n] ++ [.at [.int .i64 frm], .at [.int .i64 by_]]) (.ret [.d ((shiftC frm by_) r n).d])) (t : Fm) :
    ∀ n : Int, t.ok → 0 ≤ n → n + t.depth < 2 ^ 61 → Ev pr 48 [t.d, .int .i64 n, .fn (.func 49) [.at [.int .i64 frm], .at [.int .i64 by_]]] (.ret [.d (t.mapD (shiftC frm by_) n)]) := by
  induction t using Fm.rec' with
  | _ t ih =>
    intro n ht hn hb
    have hk := ht.ks
    have ha := ht.as
    have hd := t.depth_eq
    have kd : ∀ (i : Nat) x, t.ks[i]? = some x → x.depth + 1 ≤ t.depth := fun i x hx => by
      have := fdepths_take hx
      have := fdepths_take_le t.ks (i + 1)
      omega
    apply Ev.enter; intro c; (conv => arg 1; ext i; whnf)
    refine (Evx.loop hint48 4 (α := Nat) (fun a => [some (.d (.int .i64 n)), some (.d (.fn (.func 49) [.at [.int .i64 frm], .at [.int .i64 by_]])), some (.ptr 1 3 0), some (.ptr 1 6 0), some (.ptr 1 7 0), some (.d (.sl 3 (refs t.as))), some (.d (.int .i64 (refs t.as).length)), some (.d (.int .i64 a))]) (fun a => [some (fmBox t), some zeroBox, some (outBox t ((t.as.take a).map fun r => (shiftC frm by_) r n) [])]) 1 [] (fun a => t.as.length - a) (fun a => .ret [.d (t.mapD (shiftC frm by_) n)]) ?_ 0 (fun _ => rfl) (fun _ => rfl) (fun _ => rfl) (fun _ => by kernel_rfl)).to rfl
    intro a bx L ih'; (conv => arg 1; ext i; whnf)
    (refine Evx.bool (fun h => ?_) (fun h => ?_) <;> (try simp only [hold_eq, seq_dec, bne_iff_ne, beq_iff_eq, ne_eq, Bool.not_eq_true', Bool.not_eq_false', decide_eq_true_eq, decide_eq_false_iff_not, Decidable.not_not, refs_len, fms_len, bne_eq_false_iff_eq, beq_eq_false_iff_ne] at h) <;> (first | (exfalso; omega) | (conv => arg 1; ext i; whnf)))
    · obtain ⟨x, hx⟩ := get_some (l := t.as) (i := a) (by omega)
      refine Evx.idx rfl (refs_get hx) ?_
      (conv => arg 1; ext i; whnf)
      refine Evx.call (E x n (ht.rf hx)) ?_
      (conv => arg 1; ext i; whnf)
      refine Evx.appd (m := ((refs ((t.as.take a).map fun r => (shiftC frm by_) r n)).length + 1) * 33) rfl (by rw [refs_len, List.length_map, List.length_take]; omega) ?_
      (conv => arg 1; ext i; whnf)
      refine Evx.int (wrap_succ (by omega)) ?_
      (conv => arg 1; ext i; whnf)
      refine ih' (a + 1) _ (by omega) ?_
      intro i
      unfold outBox
      rw [refs_snoc (shiftC frm by_) n hx]
      kernel_rfl
    · rw [List.take_of_length_le (by omega)]
      refine Evx.call (binds_ev t.op) ?_
      (conv => arg 1; ext i; whnf)
      (refine Evx.bool (fun h => ?_) (fun h => ?_) <;> (try simp only [hold_eq, seq_dec, bne_iff_ne, beq_iff_eq, ne_eq, Bool.not_eq_true', Bool.not_eq_false', decide_eq_true_eq, decide_eq_false_iff_not, Decidable.not_not, refs_len, fms_len, bne_eq_false_iff_eq, beq_eq_false_iff_ne] at h) <;> (first | (exfalso; omega) | (conv => arg 1; ext i; whnf)))
      · have hu : under t n = n + 1 := by unfold under; simp_all
        refine Evx.int (n' := n + 1) (by rw [wrap_small] <;> omega) ?_
        (conv => arg 1; ext i; whnf)
        refine (Evx.loop hint48 11 (α := Nat) (fun a => [some (.d (.int .i64 (n + 1))), some (.d (.fn (.func 49) [.at [.int .i64 frm], .at [.int .i64 by_]])), some (.ptr 1 6 0), some (.ptr 1 7 0), some (.d (.sl 6 (fms t.ks))), some (.d (.int .i64 (fms t.ks).length)), some (.d (.int .i64 a))]) (fun a => [some zeroBox, some (outBox t (t.as.map fun r => (shiftC frm by_) r n) (mapRs (shiftC frm by_) (t.ks.take a) (n + 1)))]) 1 [] (fun a => t.ks.length - a) (fun a => .ret [.d (t.mapD (shiftC frm by_) n)]) ?_ 0 (fun _ => rfl) (fun _ => rfl) (fun _ => rfl) (fun _ => by kernel_rfl)).to rfl
        intro a bx L ih'; (conv => arg 1; ext i; whnf)
        (refine Evx.bool (fun h => ?_) (fun h => ?_) <;> (try simp only [hold_eq, seq_dec, bne_iff_ne, beq_iff_eq, ne_eq, Bool.not_eq_true', Bool.not_eq_false', decide_eq_true_eq, decide_eq_false_iff_not, Decidable.not_not, refs_len, fms_len, bne_eq_false_iff_eq, beq_eq_false_iff_ne] at h) <;> (first | (exfalso; omega) | (conv => arg 1; ext i; whnf)))
        · obtain ⟨x, hx⟩ := get_some (l := t.ks) (i := a) (by omega)
          have := kd a x hx
          refine Evx.idx rfl (fms_get hx) ?_
          (conv => arg 1; ext i; whnf)
          refine Evx.call (ih a x hx (n + 1) (ht.kid hx) (by omega) (by omega)) ?_
          (conv => arg 1; ext i; whnf)
          refine Evx.appd (m := ((fms (mapRs (shiftC frm by_) (t.ks.take a) (n + 1))).length + 1) * 89) rfl (by rw [fms_len, mapRs_len, List.length_take]; omega) ?_
          (conv => arg 1; ext i; whnf)
          refine Evx.int (wrap_succ (by omega)) ?_
          (conv => arg 1; ext i; whnf)
          refine ih' (a + 1) _ (by omega) ?_
          intro i
          unfold outBox
          rw [fms_snoc (shiftC frm by_) (n + 1) hx]
          kernel_rfl
        · rw [List.take_of_length_le (by omega)]
          (conv => arg 1; ext i; whnf)
          refine Evx.pure ?_
          rw [Fm.mapD, hu]
          rfl
      · have hu : under t n = n := by unfold under; simp_all
        refine (Evx.loop hint48 11 (α := Nat) (fun a => [some (.d (.int .i64 (n))), some (.d (.fn (.func 49) [.at [.int .i64 frm], .at [.int .i64 by_]])), some (.ptr 1 6 0), some (.ptr 1 7 0), some (.d (.sl 6 (fms t.ks))), some (.d (.int .i64 (fms t.ks).length)), some (.d (.int .i64 a))]) (fun a => [some zeroBox, some (outBox t (t.as.map fun r => (shiftC frm by_) r n) (mapRs (shiftC frm by_) (t.ks.take a) (n)))]) 1 [] (fun a => t.ks.length - a) (fun a => .ret [.d (t.mapD (shiftC frm by_) n)]) ?_ 0 (fun _ => rfl) (fun _ => rfl) (fun _ => rfl) (fun _ => by kernel_rfl)).to rfl
        intro a bx L ih'; (conv => arg 1; ext i; whnf)
        (refine Evx.bool (fun h => ?_) (fun h => ?_) <;> (try simp only [hold_eq, seq_dec, bne_iff_ne, beq_iff_eq, ne_eq, Bool.not_eq_true', Bool.not_eq_false', decide_eq_true_eq, decide_eq_false_iff_not, Decidable.not_not, refs_len, fms_len, bne_eq_false_iff_eq, beq_eq_false_iff_ne] at h) <;> (first | (exfalso; omega) | (conv => arg 1; ext i; whnf)))
        · obtain ⟨x, hx⟩ := get_some (l := t.ks) (i := a) (by omega)
          have := kd a x hx
          refine Evx.idx rfl (fms_get hx) ?_
          (conv => arg 1; ext i; whnf)
          refine Evx.call (ih a x hx (n) (ht.kid hx) (by omega) (by omega)) ?_
          (conv => arg 1; ext i; whnf)
          refine Evx.appd (m := ((fms (mapRs (shiftC frm by_) (t.ks.take a) (n))).length + 1) * 89) rfl (by rw [fms_len, mapRs_len, List.length_take]; omega) ?_
          (conv => arg 1; ext i; whnf)
          refine Evx.int (wrap_succ (by omega)) ?_
          (conv => arg 1; ext i; whnf)
          refine ih' (a + 1) _ (by omega) ?_
          intro i
          unfold outBox
          rw [fms_snoc (shiftC frm by_) (n) hx]
          kernel_rfl
        · rw [List.take_of_length_le (by omega)]
          (conv => arg 1; ext i; whnf)
          refine Evx.pure ?_
          rw [Fm.mapD, hu]
          rfl
theorem substB_ev (q : Rf) (E : ∀ (r : Rf) (n : Int), r.nm.size < 2 ^ 30 → Ev pr 51 ([r.d, .int .i64 n] ++ [.at [.int .i64 q.kind, .int .i64 q.idx, .str q.nm]]) (.ret [.d ((substC q) r n).d])) (t : Fm) :
    ∀ n : Int, t.ok → 0 ≤ n → n + t.depth < 2 ^ 61 → Ev pr 48 [t.d, .int .i64 n, .fn (.func 51) [.at [.int .i64 q.kind, .int .i64 q.idx, .str q.nm]]] (.ret [.d (t.mapD (substC q) n)]) := by
  induction t using Fm.rec' with
  | _ t ih =>
    intro n ht hn hb
    have hk := ht.ks
    have ha := ht.as
    have hd := t.depth_eq
    have kd : ∀ (i : Nat) x, t.ks[i]? = some x → x.depth + 1 ≤ t.depth := fun i x hx => by
      have := fdepths_take hx
      have := fdepths_take_le t.ks (i + 1)
      omega
    apply Ev.enter; intro c; (conv => arg 1; ext i; whnf)
    refine (Evx.loop hint48 4 (α := Nat) (fun a => [some (.d (.int .i64 n)), some (.d (.fn (.func 51) [.at [.int .i64 q.kind, .int .i64 q.idx, .str q.nm]])), some (.ptr 1 3 0), some (.ptr 1 6 0), some (.ptr 1 7 0), some (.d (.sl 3 (refs t.as))), some (.d (.int .i64 (refs t.as).length)), some (.d (.int .i64 a))]) (fun a => [some (fmBox t), some zeroBox, some (outBox t ((t.as.take a).map fun r => (substC q) r n) [])]) 1 [] (fun a => t.as.length - a) (fun a => .ret [.d (t.mapD (substC q) n)]) ?_ 0 (fun _ => rfl) (fun _ => rfl) (fun _ => rfl) (fun _ => by kernel_rfl)).to rfl
    intro a bx L ih'; (conv => arg 1; ext i; whnf)
    (refine Evx.bool (fun h => ?_) (fun h => ?_) <;> (try simp only [hold_eq, seq_dec, bne_iff_ne, beq_iff_eq, ne_eq, Bool.not_eq_true', Bool.not_eq_false', decide_eq_true_eq, decide_eq_false_iff_not, Decidable.not_not, refs_len, fms_len, bne_eq_false_iff_eq, beq_eq_false_iff_ne] at h) <;> (first | (exfalso; omega) | (conv => arg 1; ext i; whnf)))
    · obtain ⟨x, hx⟩ := get_some (l := t.as) (i := a) (by omega)
      refine Evx.idx rfl (refs_get hx) ?_
      (conv => arg 1; ext i; whnf)
      refine Evx.call (E x n (ht.rf hx)) ?_
      (conv => arg 1; ext i; whnf)
      refine Evx.appd (m := ((refs ((t.as.take a).map fun r => (substC q) r n)).length + 1) * 33) rfl (by rw [refs_len, List.length_map, List.length_take]; omega) ?_
      (conv => arg 1; ext i; whnf)
      refine Evx.int (wrap_succ (by omega)) ?_
      (conv => arg 1; ext i; whnf)
      refine ih' (a + 1) _ (by omega) ?_
      intro i
      unfold outBox
      rw [refs_snoc (substC q) n hx]
      kernel_rfl
    · rw [List.take_of_length_le (by omega)]
      refine Evx.call (binds_ev t.op) ?_
      (conv => arg 1; ext i; whnf)
      (refine Evx.bool (fun h => ?_) (fun h => ?_) <;> (try simp only [hold_eq, seq_dec, bne_iff_ne, beq_iff_eq, ne_eq, Bool.not_eq_true', Bool.not_eq_false', decide_eq_true_eq, decide_eq_false_iff_not, Decidable.not_not, refs_len, fms_len, bne_eq_false_iff_eq, beq_eq_false_iff_ne] at h) <;> (first | (exfalso; omega) | (conv => arg 1; ext i; whnf)))
      · have hu : under t n = n + 1 := by unfold under; simp_all
        refine Evx.int (n' := n + 1) (by rw [wrap_small] <;> omega) ?_
        (conv => arg 1; ext i; whnf)
        refine (Evx.loop hint48 11 (α := Nat) (fun a => [some (.d (.int .i64 (n + 1))), some (.d (.fn (.func 51) [.at [.int .i64 q.kind, .int .i64 q.idx, .str q.nm]])), some (.ptr 1 6 0), some (.ptr 1 7 0), some (.d (.sl 6 (fms t.ks))), some (.d (.int .i64 (fms t.ks).length)), some (.d (.int .i64 a))]) (fun a => [some zeroBox, some (outBox t (t.as.map fun r => (substC q) r n) (mapRs (substC q) (t.ks.take a) (n + 1)))]) 1 [] (fun a => t.ks.length - a) (fun a => .ret [.d (t.mapD (substC q) n)]) ?_ 0 (fun _ => rfl) (fun _ => rfl) (fun _ => rfl) (fun _ => by kernel_rfl)).to rfl
        intro a bx L ih'; (conv => arg 1; ext i; whnf)
        (refine Evx.bool (fun h => ?_) (fun h => ?_) <;> (try simp only [hold_eq, seq_dec, bne_iff_ne, beq_iff_eq, ne_eq, Bool.not_eq_true', Bool.not_eq_false', decide_eq_true_eq, decide_eq_false_iff_not, Decidable.not_not, refs_len, fms_len, bne_eq_false_iff_eq, beq_eq_false_iff_ne] at h) <;> (first | (exfalso; omega) | (conv => arg 1; ext i; whnf)))
        · obtain ⟨x, hx⟩ := get_some (l := t.ks) (i := a) (by omega)
          have := kd a x hx
          refine Evx.idx rfl (fms_get hx) ?_
          (conv => arg 1; ext i; whnf)
          refine Evx.call (ih a x hx (n + 1) (ht.kid hx) (by omega) (by omega)) ?_
          (conv => arg 1; ext i; whnf)
          refine Evx.appd (m := ((fms (mapRs (substC q) (t.ks.take a) (n + 1))).length + 1) * 89) rfl (by rw [fms_len, mapRs_len, List.length_take]; omega) ?_
          (conv => arg 1; ext i; whnf)
          refine Evx.int (wrap_succ (by omega)) ?_
          (conv => arg 1; ext i; whnf)
          refine ih' (a + 1) _ (by omega) ?_
          intro i
          unfold outBox
          rw [fms_snoc (substC q) (n + 1) hx]
          kernel_rfl
        · rw [List.take_of_length_le (by omega)]
          (conv => arg 1; ext i; whnf)
          refine Evx.pure ?_
          rw [Fm.mapD, hu]
          rfl
      · have hu : under t n = n := by unfold under; simp_all
        refine (Evx.loop hint48 11 (α := Nat) (fun a => [some (.d (.int .i64 (n))), some (.d (.fn (.func 51) [.at [.int .i64 q.kind, .int .i64 q.idx, .str q.nm]])), some (.ptr 1 6 0), some (.ptr 1 7 0), some (.d (.sl 6 (fms t.ks))), some (.d (.int .i64 (fms t.ks).length)), some (.d (.int .i64 a))]) (fun a => [some zeroBox, some (outBox t (t.as.map fun r => (substC q) r n) (mapRs (substC q) (t.ks.take a) (n)))]) 1 [] (fun a => t.ks.length - a) (fun a => .ret [.d (t.mapD (substC q) n)]) ?_ 0 (fun _ => rfl) (fun _ => rfl) (fun _ => rfl) (fun _ => by kernel_rfl)).to rfl
        intro a bx L ih'; (conv => arg 1; ext i; whnf)
        (refine Evx.bool (fun h => ?_) (fun h => ?_) <;> (try simp only [hold_eq, seq_dec, bne_iff_ne, beq_iff_eq, ne_eq, Bool.not_eq_true', Bool.not_eq_false', decide_eq_true_eq, decide_eq_false_iff_not, Decidable.not_not, refs_len, fms_len, bne_eq_false_iff_eq, beq_eq_false_iff_ne] at h) <;> (first | (exfalso; omega) | (conv => arg 1; ext i; whnf)))
        · obtain ⟨x, hx⟩ := get_some (l := t.ks) (i := a) (by omega)
          have := kd a x hx
          refine Evx.idx rfl (fms_get hx) ?_
          (conv => arg 1; ext i; whnf)
          refine Evx.call (ih a x hx (n) (ht.kid hx) (by omega) (by omega)) ?_
          (conv => arg 1; ext i; whnf)
          refine Evx.appd (m := ((fms (mapRs (substC q) (t.ks.take a) (n))).length + 1) * 89) rfl (by rw [fms_len, mapRs_len, List.length_take]; omega) ?_
          (conv => arg 1; ext i; whnf)
          refine Evx.int (wrap_succ (by omega)) ?_
          (conv => arg 1; ext i; whnf)
          refine ih' (a + 1) _ (by omega) ?_
          intro i
          unfold outBox
          rw [fms_snoc (substC q) (n) hx]
          kernel_rfl
        · rw [List.take_of_length_le (by omega)]
          (conv => arg 1; ext i; whnf)
          refine Evx.pure ?_
          rw [Fm.mapD, hu]
          rfl

theorem shiftFn_ev (frm by_ : Int) (r : Rf) (n : Int) : Ev pr 49 ([r.d, .int .i64 n] ++ [.at [.int .i64 frm], .at [.int .i64 by_]]) (.ret [.d (shiftC frm by_ r n).d]) := by
  apply Ev.enter; intro k; (conv => arg 1; ext i; whnf)
  repeat' (first | refine Evx.pure ?_ | (refine Evx.bool (fun h => ?_) (fun h => ?_) <;> (try simp only [hold_eq, seq_dec, bne_iff_ne, beq_iff_eq, ne_eq, Bool.not_eq_true', Bool.not_eq_false', decide_eq_true_eq, decide_eq_false_iff_not, Decidable.not_not, refs_len, fms_len, bne_eq_false_iff_eq, beq_eq_false_iff_ne] at h) <;> (first | (exfalso; omega) | (conv => arg 1; ext i; whnf))) | (refine Evx.int rfl ?_; (conv => arg 1; ext i; whnf)))
  all_goals (unfold shiftC; split <;> first | rfl | simp_all [Rf.d] | (exfalso; simp_all; omega))
theorem substFn_ev (q r : Rf) (n : Int) : Ev pr 51 ([r.d, .int .i64 n] ++ [.at [.int .i64 q.kind, .int .i64 q.idx, .str q.nm]]) (.ret [.d (substC q r n).d]) := by
  apply Ev.enter; intro k; (conv => arg 1; ext i; whnf)
  repeat' (first | refine Evx.pure ?_ | (refine Evx.bool (fun h => ?_) (fun h => ?_) <;> (try simp only [hold_eq, seq_dec, bne_iff_ne, beq_iff_eq, ne_eq, Bool.not_eq_true', Bool.not_eq_false', decide_eq_true_eq, decide_eq_false_iff_not, Decidable.not_not, refs_len, fms_len, bne_eq_false_iff_eq, beq_eq_false_iff_ne] at h) <;> (first | (exfalso; omega) | (conv => arg 1; ext i; whnf))) | (refine Evx.int rfl ?_; (conv => arg 1; ext i; whnf)))
  all_goals (unfold substC; (repeat' split) <;> first | rfl | (simp_all [Rf.d]; done) | (exfalso; simp_all; omega) | (exfalso; omega))

theorem shift_ev (t : Fm) (by_ frm : Int) (ht : t.ok) : Ev pr 23 [t.d, .int .i64 by_, .int .i64 frm] (.ret [.d (t.mapD (shiftC frm by_) 0)]) := by
  have hd := depth_small ht
  apply Ev.enter; intro k; (conv => arg 1; ext i; whnf)
  refine Evx.call (shiftB_ev frm by_ (fun r n _ => shiftFn_ev frm by_ r n) t 0 ht (by omega) (by omega)) ?_
  (conv => arg 1; ext i; whnf)
  exact Evx.pure rfl
theorem subst_ev (t : Fm) (q : Rf) (ht : t.ok) : Ev pr 26 [t.d, q.d] (.ret [.d (t.mapD (substC q) 0)]) := by
  have hd := depth_small ht
  apply Ev.enter; intro k; (conv => arg 1; ext i; whnf)
  refine Evx.call (substB_ev q (fun r n _ => substFn_ev q r n) t 0 ht (by omega) (by omega)) ?_
  (conv => arg 1; ext i; whnf)
  exact Evx.pure rfl

theorem rshift_ev (by_ : Int) (t : Fm) : ∀ n : Int, t.ok → 0 ≤ n → n + t.depth < 2 ^ 61 → Ev pr 50 [t.d, .int .i64 by_, .int .i64 n] (.ret [.d (t.mapD (rshiftC by_) n)]) := by
  induction t using Fm.rec' with
  | _ t ih =>
    intro n ht hn hb
    have hk := ht.ks
    have ha := ht.as
    have hu : under t n ≤ n + 1 ∧ 0 ≤ under t n := by unfold under; split <;> omega
    have kd : ∀ (i : Nat) x, t.ks[i]? = some x → x.depth + 1 ≤ t.depth := fun i x hx => by
      have := fdepths_take hx
      have := fdepths_take_le t.ks (i + 1)
      have := t.depth_eq
      omega
    apply Ev.enter; intro c; (conv => arg 1; ext i; whnf)
    refine (Evx.loop hint50 4 (α := Nat) (fun a => [some (.d (.int .i64 by_)), some (.d (.int .i64 n)), some (.ptr 1 3 0), some (.ptr 1 6 0), some (.ptr 1 7 0), some (.d (.int .i64 a))]) (fun a => [some (fmBox t), some zeroBox, some (outBox t ((t.as.take a).map fun r => (rshiftC by_) r n) [])]) 1 [] (fun a => t.as.length - a) (fun a => .ret [.d (t.mapD (rshiftC by_) n)]) ?_ 0 (fun _ => rfl) (fun _ => rfl) (fun _ => rfl) (fun _ => by kernel_rfl)).to rfl
    intro a bx L ih'; (conv => arg 1; ext i; whnf)
    (refine Evx.bool (fun h => ?_) (fun h => ?_) <;> (try simp only [hold_eq, seq_dec, bne_iff_ne, beq_iff_eq, ne_eq, Bool.not_eq_true', Bool.not_eq_false', decide_eq_true_eq, decide_eq_false_iff_not, Decidable.not_not, refs_len, fms_len, bne_eq_false_iff_eq, beq_eq_false_iff_ne] at h) <;> (first | (exfalso; omega) | (conv => arg 1; ext i; whnf)))
    · obtain ⟨x, hx⟩ := get_some (l := t.as) (i := a) (by omega)
      refine Evx.idx rfl (refs_get hx) ?_
      (conv => arg 1; ext i; whnf)
      (refine Evx.bool (fun h => ?_) (fun h => ?_) <;> (try simp only [hold_eq, seq_dec, bne_iff_ne, beq_iff_eq, ne_eq, Bool.not_eq_true', Bool.not_eq_false', decide_eq_true_eq, decide_eq_false_iff_not, Decidable.not_not, refs_len, fms_len, bne_eq_false_iff_eq, beq_eq_false_iff_ne] at h) <;> (first | (exfalso; omega) | (conv => arg 1; ext i; whnf)))
      · (refine Evx.bool (fun h => ?_) (fun h => ?_) <;> (try simp only [hold_eq, seq_dec, bne_iff_ne, beq_iff_eq, ne_eq, Bool.not_eq_true', Bool.not_eq_false', decide_eq_true_eq, decide_eq_false_iff_not, Decidable.not_not, refs_len, fms_len, bne_eq_false_iff_eq, beq_eq_false_iff_ne] at h) <;> (first | (exfalso; omega) | (conv => arg 1; ext i; whnf)))
        · have hc : rshiftC by_ x n = ⟨x.kind, IntKind.i64.wrap (x.idx + by_), x.nm⟩ := by unfold rshiftC; rw [if_pos ⟨by omega, by omega⟩]
          refine Evx.int rfl ?_
          (conv => arg 1; ext i; whnf)
          refine Evx.appd (m := ((refs ((t.as.take a).map fun r => (rshiftC by_) r n)).length + 1) * 33) rfl (by rw [refs_len, List.length_map, List.length_take]; omega) ?_
          (conv => arg 1; ext i; whnf)
          refine Evx.int (wrap_succ (by omega)) ?_
          (conv => arg 1; ext i; whnf)
          refine ih' (a + 1) _ (by omega) ?_
          intro i
          unfold outBox
          rw [refs_snoc (rshiftC by_) n hx, hc]
          kernel_rfl
        · have hc : rshiftC by_ x n = x := by unfold rshiftC; rw [if_neg (by omega)]
          refine Evx.appd (m := ((refs ((t.as.take a).map fun r => (rshiftC by_) r n)).length + 1) * 33) rfl (by rw [refs_len, List.length_map, List.length_take]; omega) ?_
          (conv => arg 1; ext i; whnf)
          refine Evx.int (wrap_succ (by omega)) ?_
          (conv => arg 1; ext i; whnf)
          refine ih' (a + 1) _ (by omega) ?_
          intro i
          unfold outBox
          rw [refs_snoc (rshiftC by_) n hx, hc]
          kernel_rfl
      · have hc : rshiftC by_ x n = x := by unfold rshiftC; rw [if_neg (by omega)]
        refine Evx.appd (m := ((refs ((t.as.take a).map fun r => (rshiftC by_) r n)).length + 1) * 33) rfl (by rw [refs_len, List.length_map, List.length_take]; omega) ?_
        (conv => arg 1; ext i; whnf)
        refine Evx.int (wrap_succ (by omega)) ?_
        (conv => arg 1; ext i; whnf)
        refine ih' (a + 1) _ (by omega) ?_
        intro i
        unfold outBox
        rw [refs_snoc (rshiftC by_) n hx, hc]
        kernel_rfl
    · rw [List.take_of_length_le (by omega)]
      refine (Evx.loop hint50 11 (α := Nat) (fun a => [some (.d (.int .i64 by_)), some (.d (.int .i64 n)), some (.ptr 1 3 0), some (.ptr 1 6 0), some (.ptr 1 7 0), some (.d (.int .i64 a))]) (fun a => [some (fmBox t), some zeroBox, some (outBox t (t.as.map fun r => (rshiftC by_) r n) (mapRs (rshiftC by_) (t.ks.take a) (under t n)))]) 1 [] (fun a => t.ks.length - a) (fun a => .ret [.d (t.mapD (rshiftC by_) n)]) ?_ 0 (fun _ => rfl) (fun _ => rfl) (fun _ => rfl) (fun _ => by kernel_rfl)).to rfl
      intro a bx L ih'; (conv => arg 1; ext i; whnf)
      (refine Evx.bool (fun h => ?_) (fun h => ?_) <;> (try simp only [hold_eq, seq_dec, bne_iff_ne, beq_iff_eq, ne_eq, Bool.not_eq_true', Bool.not_eq_false', decide_eq_true_eq, decide_eq_false_iff_not, Decidable.not_not, refs_len, fms_len, bne_eq_false_iff_eq, beq_eq_false_iff_ne] at h) <;> (first | (exfalso; omega) | (conv => arg 1; ext i; whnf)))
      · obtain ⟨x, hx⟩ := get_some (l := t.ks) (i := a) (by omega)
        have := kd a x hx
        refine Evx.idx rfl (fms_get hx) ?_
        (conv => arg 1; ext i; whnf)
        refine Evx.call (inside_ev t n hn (by omega)) ?_
        (conv => arg 1; ext i; whnf)
        refine Evx.call (ih a x hx (under t n) (ht.kid hx) (by omega) (by omega)) ?_
        (conv => arg 1; ext i; whnf)
        refine Evx.appd (m := ((fms (mapRs (rshiftC by_) (t.ks.take a) (under t n))).length + 1) * 89) rfl (by rw [fms_len, mapRs_len, List.length_take]; omega) ?_
        (conv => arg 1; ext i; whnf)
        refine Evx.int (wrap_succ (by omega)) ?_
        (conv => arg 1; ext i; whnf)
        refine ih' (a + 1) _ (by omega) ?_
        intro i
        unfold outBox
        rw [fms_snoc (rshiftC by_) (under t n) hx]
        kernel_rfl
      · rw [List.take_of_length_le (by omega)]
        (conv => arg 1; ext i; whnf)
        refine Evx.pure ?_
        rfl

theorem rreplace_ev (q : Rf) (t : Fm) : ∀ n : Int, t.ok → 0 ≤ n → n + t.depth < 2 ^ 61 → Ev pr 52 [t.d, q.d, .int .i64 n] (.ret [.d (t.mapD (substC q) n)]) := by
  induction t using Fm.rec' with
  | _ t ih =>
    intro n ht hn hb
    have hk := ht.ks
    have ha := ht.as
    have hu : under t n ≤ n + 1 ∧ 0 ≤ under t n := by unfold under; split <;> omega
    have kd : ∀ (i : Nat) x, t.ks[i]? = some x → x.depth + 1 ≤ t.depth := fun i x hx => by
      have := fdepths_take hx
      have := fdepths_take_le t.ks (i + 1)
      have := t.depth_eq
      omega
    apply Ev.enter; intro c; (conv => arg 1; ext i; whnf)
    refine (Evx.loop hint52 4 (α := Nat) (fun a => [some (.d (.int .i64 n)), some (.ptr 1 3 0), some (.ptr 1 4 0), some (.ptr 1 6 0), some (.ptr 1 7 0), some (.d (.int .i64 a))]) (fun a => [some (fmBox t), some (rfBox q), some zeroBox, some (outBox t ((t.as.take a).map fun r => (substC q) r n) [])]) 1 [] (fun a => t.as.length - a) (fun a => .ret [.d (t.mapD (substC q) n)]) ?_ 0 (fun _ => rfl) (fun _ => rfl) (fun _ => rfl) (fun _ => by kernel_rfl)).to rfl
    intro a bx L ih'; (conv => arg 1; ext i; whnf)
    (refine Evx.bool (fun h => ?_) (fun h => ?_) <;> (try simp only [hold_eq, seq_dec, bne_iff_ne, beq_iff_eq, ne_eq, Bool.not_eq_true', Bool.not_eq_false', decide_eq_true_eq, decide_eq_false_iff_not, Decidable.not_not, refs_len, fms_len, bne_eq_false_iff_eq, beq_eq_false_iff_ne] at h) <;> (first | (exfalso; omega) | (conv => arg 1; ext i; whnf)))
    · obtain ⟨x, hx⟩ := get_some (l := t.as) (i := a) (by omega)
      refine Evx.idx rfl (refs_get hx) ?_
      (conv => arg 1; ext i; whnf)
      (refine Evx.bool (fun h => ?_) (fun h => ?_) <;> (try simp only [hold_eq, seq_dec, bne_iff_ne, beq_iff_eq, ne_eq, Bool.not_eq_true', Bool.not_eq_false', decide_eq_true_eq, decide_eq_false_iff_not, Decidable.not_not, refs_len, fms_len, bne_eq_false_iff_eq, beq_eq_false_iff_ne] at h) <;> (first | (exfalso; omega) | (conv => arg 1; ext i; whnf)))
      · (refine Evx.bool (fun h => ?_) (fun h => ?_) <;> (try simp only [hold_eq, seq_dec, bne_iff_ne, beq_iff_eq, ne_eq, Bool.not_eq_true', Bool.not_eq_false', decide_eq_true_eq, decide_eq_false_iff_not, Decidable.not_not, refs_len, fms_len, bne_eq_false_iff_eq, beq_eq_false_iff_ne] at h) <;> (first | (exfalso; omega) | (conv => arg 1; ext i; whnf)))
        · (refine Evx.bool (fun h => ?_) (fun h => ?_) <;> (try simp only [hold_eq, seq_dec, bne_iff_ne, beq_iff_eq, ne_eq, Bool.not_eq_true', Bool.not_eq_false', decide_eq_true_eq, decide_eq_false_iff_not, Decidable.not_not, refs_len, fms_len, bne_eq_false_iff_eq, beq_eq_false_iff_ne] at h) <;> (first | (exfalso; omega) | (conv => arg 1; ext i; whnf)))
          · have hc : substC q x n = ⟨q.kind, IntKind.i64.wrap (q.idx + n), q.nm⟩ := by unfold substC; rw [if_pos ⟨by omega, by omega⟩, if_neg (by omega), if_pos (by omega)]
            refine Evx.int rfl ?_
            (conv => arg 1; ext i; whnf)
            refine Evx.appd (m := ((refs ((t.as.take a).map fun r => (substC q) r n)).length + 1) * 33) rfl (by rw [refs_len, List.length_map, List.length_take]; omega) ?_
            (conv => arg 1; ext i; whnf)
            refine Evx.int (wrap_succ (by omega)) ?_
            (conv => arg 1; ext i; whnf)
            refine ih' (a + 1) _ (by omega) ?_
            intro i
            unfold outBox
            rw [refs_snoc (substC q) n hx, hc]
            kernel_rfl
          · have hc : substC q x n = q := by unfold substC; rw [if_pos ⟨by omega, by omega⟩, if_neg (by omega), if_neg (by omega)]
            refine Evx.appd (m := ((refs ((t.as.take a).map fun r => (substC q) r n)).length + 1) * 33) rfl (by rw [refs_len, List.length_map, List.length_take]; omega) ?_
            (conv => arg 1; ext i; whnf)
            refine Evx.int (wrap_succ (by omega)) ?_
            (conv => arg 1; ext i; whnf)
            refine ih' (a + 1) _ (by omega) ?_
            intro i
            unfold outBox
            rw [refs_snoc (substC q) n hx, hc]
            kernel_rfl
        · (refine Evx.bool (fun h => ?_) (fun h => ?_) <;> (try simp only [hold_eq, seq_dec, bne_iff_ne, beq_iff_eq, ne_eq, Bool.not_eq_true', Bool.not_eq_false', decide_eq_true_eq, decide_eq_false_iff_not, Decidable.not_not, refs_len, fms_len, bne_eq_false_iff_eq, beq_eq_false_iff_ne] at h) <;> (first | (exfalso; omega) | (conv => arg 1; ext i; whnf)))
          (refine Evx.bool (fun h => ?_) (fun h => ?_) <;> (try simp only [hold_eq, seq_dec, bne_iff_ne, beq_iff_eq, ne_eq, Bool.not_eq_true', Bool.not_eq_false', decide_eq_true_eq, decide_eq_false_iff_not, Decidable.not_not, refs_len, fms_len, bne_eq_false_iff_eq, beq_eq_false_iff_ne] at h) <;> (first | (exfalso; omega) | (conv => arg 1; ext i; whnf)))
          · have hc : substC q x n = ⟨x.kind, IntKind.i64.wrap (x.idx - 1), x.nm⟩ := by unfold substC; rw [if_pos ⟨by omega, by omega⟩, if_pos (by omega)]
            refine Evx.int rfl ?_
            (conv => arg 1; ext i; whnf)
            refine Evx.appd (m := ((refs ((t.as.take a).map fun r => (substC q) r n)).length + 1) * 33) rfl (by rw [refs_len, List.length_map, List.length_take]; omega) ?_
            (conv => arg 1; ext i; whnf)
            refine Evx.int (wrap_succ (by omega)) ?_
            (conv => arg 1; ext i; whnf)
            refine ih' (a + 1) _ (by omega) ?_
            intro i
            unfold outBox
            rw [refs_snoc (substC q) n hx, hc]
            kernel_rfl
          · have hc : substC q x n = x := by unfold substC; rw [if_neg (by omega)]
            refine Evx.appd (m := ((refs ((t.as.take a).map fun r => (substC q) r n)).length + 1) * 33) rfl (by rw [refs_len, List.length_map, List.length_take]; omega) ?_
            (conv => arg 1; ext i; whnf)
            refine Evx.int (wrap_succ (by omega)) ?_
            (conv => arg 1; ext i; whnf)
            refine ih' (a + 1) _ (by omega) ?_
            intro i
            unfold outBox
            rw [refs_snoc (substC q) n hx, hc]
            kernel_rfl
      · (refine Evx.bool (fun h => ?_) (fun h => ?_) <;> (try simp only [hold_eq, seq_dec, bne_iff_ne, beq_iff_eq, ne_eq, Bool.not_eq_true', Bool.not_eq_false', decide_eq_true_eq, decide_eq_false_iff_not, Decidable.not_not, refs_len, fms_len, bne_eq_false_iff_eq, beq_eq_false_iff_ne] at h) <;> (first | (exfalso; omega) | (conv => arg 1; ext i; whnf)))
        have hc : substC q x n = x := by unfold substC; rw [if_neg (by omega)]
        refine Evx.appd (m := ((refs ((t.as.take a).map fun r => (substC q) r n)).length + 1) * 33) rfl (by rw [refs_len, List.length_map, List.length_take]; omega) ?_
        (conv => arg 1; ext i; whnf)
        refine Evx.int (wrap_succ (by omega)) ?_
        (conv => arg 1; ext i; whnf)
        refine ih' (a + 1) _ (by omega) ?_
        intro i
        unfold outBox
        rw [refs_snoc (substC q) n hx, hc]
        kernel_rfl
    · rw [List.take_of_length_le (by omega)]
      refine (Evx.loop hint52 15 (α := Nat) (fun a => [some (.d (.int .i64 n)), some (.ptr 1 3 0), some (.ptr 1 4 0), some (.ptr 1 6 0), some (.ptr 1 7 0), some (.d (.int .i64 a))]) (fun a => [some (fmBox t), some (rfBox q), some zeroBox, some (outBox t (t.as.map fun r => (substC q) r n) (mapRs (substC q) (t.ks.take a) (under t n)))]) 1 [] (fun a => t.ks.length - a) (fun a => .ret [.d (t.mapD (substC q) n)]) ?_ 0 (fun _ => rfl) (fun _ => rfl) (fun _ => rfl) (fun _ => by kernel_rfl)).to rfl
      intro a bx L ih'; (conv => arg 1; ext i; whnf)
      (refine Evx.bool (fun h => ?_) (fun h => ?_) <;> (try simp only [hold_eq, seq_dec, bne_iff_ne, beq_iff_eq, ne_eq, Bool.not_eq_true', Bool.not_eq_false', decide_eq_true_eq, decide_eq_false_iff_not, Decidable.not_not, refs_len, fms_len, bne_eq_false_iff_eq, beq_eq_false_iff_ne] at h) <;> (first | (exfalso; omega) | (conv => arg 1; ext i; whnf)))
      · obtain ⟨x, hx⟩ := get_some (l := t.ks) (i := a) (by omega)
        have := kd a x hx
        refine Evx.idx rfl (fms_get hx) ?_
        (conv => arg 1; ext i; whnf)
        refine Evx.call (inside_ev t n hn (by omega)) ?_
        (conv => arg 1; ext i; whnf)
        refine Evx.call (ih a x hx (under t n) (ht.kid hx) (by omega) (by omega)) ?_
        (conv => arg 1; ext i; whnf)
        refine Evx.appd (m := ((fms (mapRs (substC q) (t.ks.take a) (under t n))).length + 1) * 89) rfl (by rw [fms_len, mapRs_len, List.length_take]; omega) ?_
        (conv => arg 1; ext i; whnf)
        refine Evx.int (wrap_succ (by omega)) ?_
        (conv => arg 1; ext i; whnf)
        refine ih' (a + 1) _ (by omega) ?_
        intro i
        unfold outBox
        rw [fms_snoc (substC q) (under t n) hx]
        kernel_rfl
      · rw [List.take_of_length_le (by omega)]
        (conv => arg 1; ext i; whnf)
        refine Evx.pure ?_
        rfl
end Go.Proofs.YtehkgiofchmpaaaDoor
