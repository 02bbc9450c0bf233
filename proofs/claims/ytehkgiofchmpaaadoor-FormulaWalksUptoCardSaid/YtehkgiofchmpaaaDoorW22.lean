/- Round 22 walked: sizes, what is valid. -/
import Derived.Test.YtehkgiofchmpaaaDoorPr
import Derived.Test.YtehkgiofchmpaaaDoorS22
import Derived.KernelRfl
namespace Go.Proofs.YtehkgiofchmpaaaDoor
open Go Go.Abs Go.Abs.Asks
set_option linter.unusedVariables false
set_option linter.unusedSimpArgs false
set_option linter.unusedSectionVars false
variable [Asks]

theorem pSize_ev (t : Fm) : t.ok → Ev pr 29 [t.d] (.ret [.d (.int .i64 t.size)]) := by
  induction t using Fm.rec' with
  | _ t ih =>
    intro ht
    have hk := ht.ks
    have hs := ht.sizes
    apply Ev.enter; intro c; (conv => arg 1; ext i; whnf)
    refine (Evx.loop hint29 3 (α := Nat) (fun a => [some (.d (.int .i64 ((1 + fsizes (t.ks.take a) : Nat) : Int))), some (.d (.sl 6 (fms t.ks))), some (.d (.int .i64 (fms t.ks).length)),some (.d (.int .i64 a))]) (fun a => []) 1 [] (fun a => t.ks.length - a) (fun a => .ret [.d (.int .i64 t.size)]) ?_ 0 (fun _ => rfl) (fun _ => rfl) (fun _ => rfl) (fun _ => by kernel_rfl)).to rfl
    intro a bx L ih'; (conv => arg 1; ext i; whnf)
    refine Evx.bool (fun h2 => ?_) (fun h2 => ?_)
    · have h2 := hold_true.1 h2
      simp only [fms_len, decide_eq_true_eq] at h2
      obtain ⟨x, hx⟩ := get_some (l := t.ks) (i := a) (by omega)
      (conv => arg 1; ext i; whnf)
      refine Evx.idx rfl (fms_get hx) ?_
      (conv => arg 1; ext i; whnf)
      refine Evx.call (ih a x hx (ht.kid hx)) ?_
      (conv => arg 1; ext i; whnf)
      have h3 := fsizes_take hx
      have h4 := fsizes_take_le t.ks (a + 1)
      refine Evx.int (n' := ((1 + fsizes (t.ks.take (a + 1)) : Nat) : Int)) (by rw [wrap_small] <;> omega) ?_
      (conv => arg 1; ext i; whnf)
      refine Evx.int (wrap_succ (by omega)) ?_
      (conv => arg 1; ext i; whnf)
      exact ih' (a + 1) _ (by omega) (fun _ => by kernel_rfl)
    · have h2 := hold_false.1 h2
      simp only [fms_len, decide_eq_false_iff_not] at h2
      (conv => arg 1; ext i; whnf)
      refine Evx.pure ?_
      rw [List.take_of_length_le (by omega), ← t.size_eq]
theorem rSize_ev (t : Fm) : t.ok → Ev pr 37 [t.d] (.ret [.d (.int .i64 t.size)]) := by
  induction t using Fm.rec' with
  | _ t ih =>
    intro ht
    have hk := ht.ks
    have hs := ht.sizes
    apply Ev.enter; intro c; (conv => arg 1; ext i; whnf)
    refine (Evx.loop hint37 3 (α := Nat) (fun a => [some (.ptr 1 1 0),some (.d (.int .i64 ((1 + fsizes (t.ks.take a) : Nat) : Int))), some (.d (.int .i64 a))]) (fun a => [some (fmBox t)]) 1 [] (fun a => t.ks.length - a) (fun a => .ret [.d (.int .i64 t.size)]) ?_ 0 (fun _ => rfl) (fun _ => rfl) (fun _ => rfl) (fun _ => by kernel_rfl)).to rfl
    intro a bx L ih'; (conv => arg 1; ext i; whnf)
    refine Evx.bool (fun h2 => ?_) (fun h2 => ?_)
    · have h2 := hold_true.1 h2
      simp only [fms_len, decide_eq_true_eq] at h2
      obtain ⟨x, hx⟩ := get_some (l := t.ks) (i := a) (by omega)
      (conv => arg 1; ext i; whnf)
      refine Evx.idx rfl (fms_get hx) ?_
      (conv => arg 1; ext i; whnf)
      refine Evx.call (ih a x hx (ht.kid hx)) ?_
      (conv => arg 1; ext i; whnf)
      have h3 := fsizes_take hx
      have h4 := fsizes_take_le t.ks (a + 1)
      refine Evx.int (n' := ((1 + fsizes (t.ks.take (a + 1)) : Nat) : Int)) (by rw [wrap_small] <;> omega) ?_
      (conv => arg 1; ext i; whnf)
      refine Evx.int (wrap_succ (by omega)) ?_
      (conv => arg 1; ext i; whnf)
      exact ih' (a + 1) _ (by omega) (fun _ => by kernel_rfl)
    · have h2 := hold_false.1 h2
      simp only [fms_len, decide_eq_false_iff_not] at h2
      (conv => arg 1; ext i; whnf)
      refine Evx.pure ?_
      rw [List.take_of_length_le (by omega), ← t.size_eq]

theorem pDepth_ev (t : Fm) : t.ok → Ev pr 30 [t.d] (.ret [.d (.int .i64 t.depth)]) := by
  induction t using Fm.rec' with
  | _ t ih =>
    intro ht
    have hk := ht.ks
    have hs := ht.depths
    apply Ev.enter; intro c; (conv => arg 1; ext i; whnf)
    refine (Evx.loop hint30 3 (α := Nat) (fun a => [some (.d (.int .i64 ((fdepths (t.ks.take a) : Nat) : Int))), some (.d (.sl 6 (fms t.ks))), some (.d (.int .i64 (fms t.ks).length)),some (.d (.int .i64 a))]) (fun a => []) 1 [] (fun a => t.ks.length - a) (fun a => .ret [.d (.int .i64 t.depth)]) ?_ 0 (fun _ => rfl) (fun _ => rfl) (fun _ => rfl) (fun _ => by kernel_rfl)).to rfl
    intro a bx L ih'; (conv => arg 1; ext i; whnf)
    refine Evx.bool (fun h2 => ?_) (fun h2 => ?_)
    · have h2 := hold_true.1 h2
      simp only [fms_len, decide_eq_true_eq] at h2
      obtain ⟨x, hx⟩ := get_some (l := t.ks) (i := a) (by omega)
      (conv => arg 1; ext i; whnf)
      refine Evx.idx rfl (fms_get hx) ?_
      (conv => arg 1; ext i; whnf)
      refine Evx.call (ih a x hx (ht.kid hx)) ?_
      (conv => arg 1; ext i; whnf)
      have h3 := fdepths_take hx
      have h4 := fdepths_take_le t.ks (a + 1)
      refine Evx.int (n' := ((fdepths (t.ks.take (a + 1)) : Nat) : Int)) (by simp only [extI]; split <;> simp_all <;> omega) ?_
      (conv => arg 1; ext i; whnf)
      refine Evx.int (wrap_succ (by omega)) ?_
      (conv => arg 1; ext i; whnf)
      exact ih' (a + 1) _ (by omega) (fun _ => by kernel_rfl)
    · have h2 := hold_false.1 h2
      simp only [fms_len, decide_eq_false_iff_not] at h2
      (conv => arg 1; ext i; whnf)
      rw [List.take_of_length_le (by omega)]
      refine Evx.int (n' := (t.depth : Int)) (by rw [t.depth_eq, wrap_small] <;> omega) ?_
      (conv => arg 1; ext i; whnf)
      exact Evx.pure rfl
theorem rDepth_ev (t : Fm) : t.ok → Ev pr 38 [t.d] (.ret [.d (.int .i64 t.depth)]) := by
  induction t using Fm.rec' with
  | _ t ih =>
    intro ht
    have hk := ht.ks
    have hs := ht.depths
    apply Ev.enter; intro c; (conv => arg 1; ext i; whnf)
    refine (Evx.loop hint38 3 (α := Nat) (fun a => [some (.ptr 1 1 0),some (.d (.int .i64 ((fdepths (t.ks.take a) : Nat) : Int))), some (.d (.int .i64 a))]) (fun a => [some (fmBox t)]) 1 [] (fun a => t.ks.length - a) (fun a => .ret [.d (.int .i64 t.depth)]) ?_ 0 (fun _ => rfl) (fun _ => rfl) (fun _ => rfl) (fun _ => by kernel_rfl)).to rfl
    intro a bx L ih'; (conv => arg 1; ext i; whnf)
    refine Evx.bool (fun h2 => ?_) (fun h2 => ?_)
    · have h2 := hold_true.1 h2
      simp only [fms_len, decide_eq_true_eq] at h2
      obtain ⟨x, hx⟩ := get_some (l := t.ks) (i := a) (by omega)
      (conv => arg 1; ext i; whnf)
      refine Evx.idx rfl (fms_get hx) ?_
      (conv => arg 1; ext i; whnf)
      refine Evx.call (ih a x hx (ht.kid hx)) ?_
      (conv => arg 1; ext i; whnf)
      have h3 := fdepths_take hx
      have h4 := fdepths_take_le t.ks (a + 1)
      refine Evx.int (n' := ((fdepths (t.ks.take (a + 1)) : Nat) : Int)) (by simp only [extI]; split <;> simp_all <;> omega) ?_
      (conv => arg 1; ext i; whnf)
      refine Evx.int (wrap_succ (by omega)) ?_
      (conv => arg 1; ext i; whnf)
      exact ih' (a + 1) _ (by omega) (fun _ => by kernel_rfl)
    · have h2 := hold_false.1 h2
      simp only [fms_len, decide_eq_false_iff_not] at h2
      (conv => arg 1; ext i; whnf)
      rw [List.take_of_length_le (by omega)]
      refine Evx.int (n' := (t.depth : Int)) (by rw [t.depth_eq, wrap_small] <;> omega) ?_
      (conv => arg 1; ext i; whnf)
      exact Evx.pure rfl

theorem seq_dec (a b : ByteArray) : seq a b = decide (a = b) := by
  by_cases h : a = b
  · rw [seq_iff.2 h]; simp [h]
  · rw [seq_ne.2 h]; simp [h]

theorem first_ev (c : UInt8) : Ev pr 75 [.int .u8 c.toNat] (.ret [.d (.bool (lowerB c))]) := by
  apply Ev.enter; intro k; (conv => arg 1; ext i; whnf)
  repeat' (first | refine Evx.pure ?_ | (refine Evx.bool (fun h => ?_) (fun h => ?_) <;> (conv => arg 1; ext i; whnf)))
  all_goals (refine congrArg (fun b => Out.ret [AV.d (D.bool b)]) ?_)
  all_goals rw [Bool.eq_iff_iff]
  all_goals simp only [hold_eq, seq_dec] at *
  all_goals (simp_all [lowerB])
  all_goals omega
theorem lower_ev (c : UInt8) : Ev pr 53 [.int .u8 c.toNat] (.ret [.d (.bool (lowerB c))]) := by
  apply Ev.enter; intro k; (conv => arg 1; ext i; whnf)
  repeat' (first | refine Evx.pure ?_ | (refine Evx.bool (fun h => ?_) (fun h => ?_) <;> (conv => arg 1; ext i; whnf)))
  all_goals (refine congrArg (fun b => Out.ret [AV.d (D.bool b)]) ?_)
  all_goals rw [Bool.eq_iff_iff]
  all_goals simp only [hold_eq, seq_dec] at *
  all_goals (simp_all [lowerB])
  all_goals omega
theorem moment_ev (n : Int) : Ev pr 96 [.int .i64 n] (.ret [.d (.bool (momentB n))]) := by
  apply Ev.enter; intro k; (conv => arg 1; ext i; whnf)
  repeat' (first | refine Evx.pure ?_ | (refine Evx.bool (fun h => ?_) (fun h => ?_) <;> (conv => arg 1; ext i; whnf)))
  all_goals (refine congrArg (fun b => Out.ret [AV.d (D.bool b)]) ?_)
  all_goals rw [Bool.eq_iff_iff]
  all_goals simp only [hold_eq, seq_dec] at *
  all_goals (simp_all [momentB])
  all_goals omega
theorem rmoment_ev (n : Int) : Ev pr 97 [.int .i64 n] (.ret [.d (.bool (momentB n))]) := by
  apply Ev.enter; intro k; (conv => arg 1; ext i; whnf)
  repeat' (first | refine Evx.pure ?_ | (refine Evx.bool (fun h => ?_) (fun h => ?_) <;> (conv => arg 1; ext i; whnf)))
  all_goals (refine congrArg (fun b => Out.ret [AV.d (D.bool b)]) ?_)
  all_goals rw [Bool.eq_iff_iff]
  all_goals simp only [hold_eq, seq_dec] at *
  all_goals (simp_all [momentB])
  all_goals omega
theorem binds_ev (n : Int) : Ev pr 68 [.int .i64 n] (.ret [.d (.bool (bindsB n))]) := by
  apply Ev.enter; intro k; (conv => arg 1; ext i; whnf)
  repeat' (first | refine Evx.pure ?_ | (refine Evx.bool (fun h => ?_) (fun h => ?_) <;> (conv => arg 1; ext i; whnf)))
  all_goals (refine congrArg (fun b => Out.ret [AV.d (D.bool b)]) ?_)
  all_goals rw [Bool.eq_iff_iff]
  all_goals simp only [hold_eq, seq_dec] at *
  all_goals (simp_all [bindsB])
  all_goals omega
theorem rbinds_ev (n : Int) : Ev pr 91 [.int .i64 n] (.ret [.d (.bool (bindsB n))]) := by
  apply Ev.enter; intro k; (conv => arg 1; ext i; whnf)
  repeat' (first | refine Evx.pure ?_ | (refine Evx.bool (fun h => ?_) (fun h => ?_) <;> (conv => arg 1; ext i; whnf)))
  all_goals (refine congrArg (fun b => Out.ret [AV.d (D.bool b)]) ?_)
  all_goals rw [Bool.eq_iff_iff]
  all_goals simp only [hold_eq, seq_dec] at *
  all_goals (simp_all [bindsB])
  all_goals omega

theorem rest_ev (c : UInt8) : Ev pr 101 [.int .u8 c.toNat] (.ret [.d (.bool (tailB c))]) := by
  apply Ev.enter; intro k; (conv => arg 1; ext i; whnf)
  repeat' (first | refine Evx.pure ?_ | (refine Evx.bool (fun h => ?_) (fun h => ?_) <;> (conv => arg 1; ext i; whnf)) | (refine Evx.call (first_ev c) ?_; (conv => arg 1; ext i; whnf)))
  all_goals (refine congrArg (fun b => Out.ret [AV.d (D.bool b)]) ?_)
  all_goals rw [Bool.eq_iff_iff]
  all_goals simp only [hold_eq, seq_dec] at *
  all_goals (simp_all [tailB])
  all_goals omega
theorem tail_ev (c : UInt8) : Ev pr 54 [.int .u8 c.toNat] (.ret [.d (.bool (tailB c))]) := by
  apply Ev.enter; intro k; (conv => arg 1; ext i; whnf)
  repeat' (first | refine Evx.pure ?_ | (refine Evx.bool (fun h => ?_) (fun h => ?_) <;> (conv => arg 1; ext i; whnf)) | (refine Evx.call (lower_ev c) ?_; (conv => arg 1; ext i; whnf)))
  all_goals (refine congrArg (fun b => Out.ret [AV.d (D.bool b)]) ?_)
  all_goals rw [Bool.eq_iff_iff]
  all_goals simp only [hold_eq, seq_dec] at *
  all_goals (simp_all [tailB])
  all_goals omega

theorem symbol_ev (s : ByteArray) (hs : s.size < 2 ^ 30) : Ev pr 95 [.str s] (.ret [.d (.bool (symB s))]) := by
  have hl : s.data.toList.length = s.size := (bsize s).symm
  apply Ev.enter; intro k; (conv => arg 1; ext i; whnf)
  refine (Evx.loop hint95 2 (α := Nat) (fun a => [some (.d (.str s)), some (.d (.int .i64 ((a + 1 : Nat) : Int)))]) (fun a => []) 1 [] (fun a => s.size - a) (fun a => .ret [.d (.bool (headB s.data.toList && (s.data.toList.drop (a + 1)).all tailB))]) ?_ 0 (fun _ => rfl) (fun _ => rfl) (fun _ => rfl) (fun _ => by kernel_rfl)).to (by rw [symB, symL_head])
  intro a bx L ih; (conv => arg 1; ext i; whnf)
  refine Evx.bool (fun h2 => ?_) (fun h2 => ?_)
  · have h2 := hold_true.1 h2
    simp only [decide_eq_true_eq] at h2
    obtain ⟨e, he⟩ := get_some (l := s.data.toList) (i := a + 1) (by omega)
    (conv => arg 1; ext i; whnf)
    refine Evx.chr rfl (by rw [bget]; exact he) ?_
    (conv => arg 1; ext i; whnf)
    refine Evx.call (rest_ev e) ?_
    (conv => arg 1; ext i; whnf)
    refine Evx.bool (fun h3 => ?_) (fun h3 => ?_)
    · (conv => arg 1; ext i; whnf)
      refine Evx.pure ?_
      simp only [Bool.not_eq_true'] at h3
      rw [drop_cons he]; simp [h3]
    · (conv => arg 1; ext i; whnf)
      simp only [Bool.not_eq_false'] at h3
      refine Evx.int (wrap_succ (by omega)) ?_
      (conv => arg 1; ext i; whnf)
      refine (ih (a + 1) _ (by omega) (fun _ => by kernel_rfl)).to ?_
      rw [drop_cons he]; simp [h3]
  · have h2 := hold_false.1 h2
    simp only [decide_eq_false_iff_not] at h2
    (conv => arg 1; ext i; whnf)
    rw [List.drop_eq_nil_of_le (by omega)]
    refine Evx.bool (fun h3 => ?_) (fun h3 => ?_)
    · (conv => arg 1; ext i; whnf)
      simp only [Bool.not_eq_true', seq_dec, decide_eq_false_iff_not] at h3
      rw [emp_iff] at h3
      cases hd : s.data.toList with
      | nil => exact absurd hd h3
      | cons e es =>
        refine Evx.chr (m := 0) rfl (by rw [bget, hd]; rfl) ?_
        (conv => arg 1; ext i; whnf)
        refine Evx.call (first_ev e) ?_
        (conv => arg 1; ext i; whnf)
        refine Evx.pure ?_
        simp [headB]
    · (conv => arg 1; ext i; whnf)
      simp only [Bool.not_eq_false', seq_dec, decide_eq_true_eq] at h3
      rw [emp_iff] at h3
      refine Evx.pure ?_
      rw [h3]; rfl

theorem rsymbol_ev (s : ByteArray) (hs : s.size < 2 ^ 30) : Ev pr 28 [.str s] (.ret [.d (.bool (symB s))]) := by
  have hl : s.data.toList.length = s.size := (bsize s).symm
  apply Ev.enter; intro k; (conv => arg 1; ext i; whnf)
  refine (Evx.loop hint28 2 (α := Nat) (fun a => [some (.d (.str s)), some (.d (.int .i64 (a : Int)))]) (fun a => []) 1 [] (fun a => s.size - a) (fun a => .ret [.d (.bool (decide (0 < s.size) && (decide (a ≠ 0) || headB s.data.toList) && (s.data.toList.drop a).all tailB))]) ?_ 0 (fun _ => rfl) (fun _ => rfl) (fun _ => rfl) (fun _ => by kernel_rfl)).to (by
    rw [symB]
    have := hl
    cases hd : s.data.toList with
    | nil => simp [symL, headB]
    | cons e es =>
      have : 0 < s.size := by rw [← hl, hd]; simp
      simp only [symL, headB, List.drop_zero, List.all_cons, this]
      cases hlo : lowerB e with
      | false => simp
      | true => simp [lower_tail hlo])
  intro a bx L ih; (conv => arg 1; ext i; whnf)
  refine Evx.bool (fun h2 => ?_) (fun h2 => ?_)
  · have h2 := hold_true.1 h2
    simp only [decide_eq_true_eq] at h2
    obtain ⟨e, he⟩ := get_some (l := s.data.toList) (i := a) (by omega)
    have hpos : 0 < s.size := by omega
    (conv => arg 1; ext i; whnf)
    refine Evx.bool (fun h3 => ?_) (fun h3 => ?_)
    · (conv => arg 1; ext i; whnf)
      have h3 := hold_true.1 h3
      simp only [beq_iff_eq] at h3
      obtain rfl : a = 0 := by omega
      refine Evx.chr rfl (by rw [bget]; exact he) ?_
      (conv => arg 1; ext i; whnf)
      refine Evx.call (lower_ev e) ?_
      (conv => arg 1; ext i; whnf)
      have hh : headB s.data.toList = lowerB e := by
        cases hd : s.data.toList with
        | nil => rw [hd] at he; cases he
        | cons e' es => rw [hd] at he; cases he; rfl
      refine Evx.bool (fun h4 => ?_) (fun h4 => ?_)
      · (conv => arg 1; ext i; whnf)
        simp only [Bool.not_eq_true'] at h4
        refine Evx.pure ?_
        rw [hh, h4]; simp
      · (conv => arg 1; ext i; whnf)
        simp only [Bool.not_eq_false'] at h4
        refine Evx.chr rfl (by rw [bget]; exact he) ?_
        (conv => arg 1; ext i; whnf)
        refine Evx.call (tail_ev e) ?_
        (conv => arg 1; ext i; whnf)
        refine Evx.bool (fun h5 => ?_) (fun h5 => ?_)
        · simp [lower_tail h4] at h5
        (conv => arg 1; ext i; whnf)
        refine Evx.int (wrap_succ (n := 0) (by omega)) ?_
        (conv => arg 1; ext i; whnf)
        refine (ih 1 _ (by omega) (fun _ => by kernel_rfl)).to ?_
        rw [hh, h4, drop_cons he]; simp [lower_tail h4]
    · (conv => arg 1; ext i; whnf)
      have h3 := hold_false.1 h3
      simp only [beq_eq_false_iff_ne, ne_eq] at h3
      refine Evx.chr rfl (by rw [bget]; exact he) ?_
      (conv => arg 1; ext i; whnf)
      refine Evx.call (tail_ev e) ?_
      (conv => arg 1; ext i; whnf)
      refine Evx.bool (fun h5 => ?_) (fun h5 => ?_)
      · (conv => arg 1; ext i; whnf)
        simp only [Bool.not_eq_true'] at h5
        refine Evx.pure ?_
        rw [drop_cons he]; simp [h5]
      · (conv => arg 1; ext i; whnf)
        simp only [Bool.not_eq_false'] at h5
        refine Evx.int (wrap_succ (by omega)) ?_
        (conv => arg 1; ext i; whnf)
        refine (ih (a + 1) _ (by omega) (fun _ => by kernel_rfl)).to ?_
        rw [drop_cons he]
        have : a ≠ 0 := by omega
        simp [h5, this]
  · have h2 := hold_false.1 h2
    simp only [decide_eq_false_iff_not] at h2
    (conv => arg 1; ext i; whnf)
    refine Evx.pure ?_
    rw [List.drop_eq_nil_of_le (by omega)]
    simp only [hold_eq, List.all_nil, Bool.and_true]
    by_cases h0 : s.size = 0
    · simp [h0]
    · have : a ≠ 0 := by omega
      simp [this]

theorem ref_ev (r : Rf) (n : Int) (hr : r.nm.size < 2 ^ 30) : Ev pr 94 [r.d, .int .i64 n] (.ret [.d (.bool (refOk r n))]) := by
  apply Ev.enter; intro k; (conv => arg 1; ext i; whnf)
  repeat' (first | refine Evx.pure ?_ | (refine Evx.bool (fun h => ?_) (fun h => ?_) <;> (conv => arg 1; ext i; whnf)) | (refine Evx.call (symbol_ev r.nm hr) ?_; (conv => arg 1; ext i; whnf)))
  all_goals (refine congrArg (fun b => Out.ret [AV.d (D.bool b)]) ?_)
  all_goals rw [Bool.eq_iff_iff]
  all_goals simp only [hold_eq, seq_dec] at *
  all_goals (simp_all [refOk, Go.Abs.emp])
  all_goals omega
theorem rref_ev (r : Rf) (n : Int) (hr : r.nm.size < 2 ^ 30) : Ev pr 25 [r.d, .int .i64 n] (.ret [.d (.bool (refOk r n))]) := by
  apply Ev.enter; intro k; (conv => arg 1; ext i; whnf)
  repeat' (first | refine Evx.pure ?_ | (refine Evx.bool (fun h => ?_) (fun h => ?_) <;> (conv => arg 1; ext i; whnf)) | (refine Evx.call (rsymbol_ev r.nm hr) ?_; (conv => arg 1; ext i; whnf)))
  all_goals (refine congrArg (fun b => Out.ret [AV.d (D.bool b)]) ?_)
  all_goals rw [Bool.eq_iff_iff]
  all_goals simp only [hold_eq, seq_dec] at *
  all_goals (simp_all [refOk, Go.Abs.emp])
  all_goals omega

theorem bool_out {a b : Bool} (h : a = true ↔ b = true) : (Out.ret [AV.d (D.bool a)] : Out) = Out.ret [AV.d (D.bool b)] := by rw [Bool.eq_iff_iff.2 h]

def argsOk (t : Fm) (n : Int) (a : Nat) : Bool := (t.as.drop a).all (refOk · n) && decide (t.ks.length = 0) && decide (1 ≤ t.as.length) && decide (t.as.length ≤ 3) && symB t.nm

theorem fields_ev (t : Fm) (n : Int) (ht : t.ok) : Ev pr 67 [t.d, .int .i64 n] (.ret [.d (.bool (fieldsOk t n))]) := by
  have has := ht.as
  apply Ev.enter; intro k; (conv => arg 1; ext i; whnf)
  repeat' (first | refine Evx.pure ?_ | (refine Evx.bool (fun h => ?_) (fun h => ?_) <;> (try simp only [hold_eq, seq_dec, bne_iff_ne, beq_iff_eq, ne_eq, Bool.not_eq_true', Bool.not_eq_false', decide_eq_true_eq, decide_eq_false_iff_not, Decidable.not_not, refs_len, fms_len, bne_eq_false_iff_eq, beq_eq_false_iff_ne] at h) <;> (first | (exfalso; omega) | (conv => arg 1; ext i; whnf))) | (refine Evx.call (symbol_ev t.nm ht.nm) ?_; (conv => arg 1; ext i; whnf)) | (refine Evx.call (binds_ev t.op) ?_; (conv => arg 1; ext i; whnf)) | (refine Evx.call (moment_ev _) ?_; (conv => arg 1; ext i; whnf)) | (
    refine (Evx.loop hint67 13 (α := Nat) (fun a => [some (.d (.int .i64 n)), some (.ptr 1 2 0), some (.d (.sl 3 (refs t.as))), some (.d (.int .i64 (refs t.as).length)), some (.d (.int .i64 a))]) (fun a => [some (fmBox t)]) 1 [] (fun a => t.as.length - a) (fun a => .ret [.d (.bool (argsOk t n a))]) (by
      intro a bx L ih; (conv => arg 1; ext i; whnf)
      refine Evx.bool (fun h2 => ?_) (fun h2 => ?_)
      · have h2 := hold_true.1 h2
        simp only [refs_len, decide_eq_true_eq] at h2
        obtain ⟨x, hx⟩ := get_some (l := t.as) (i := a) (by omega)
        (conv => arg 1; ext i; whnf)
        refine Evx.idx rfl (refs_get hx) ?_
        (conv => arg 1; ext i; whnf)
        refine Evx.call (ref_ev x n (ht.rf hx)) ?_
        (conv => arg 1; ext i; whnf)
        refine Evx.bool (fun h3 => ?_) (fun h3 => ?_)
        · (conv => arg 1; ext i; whnf)
          simp only [Bool.not_eq_true'] at h3
          refine Evx.pure ?_
          unfold argsOk
          rw [drop_cons hx]; simp [h3]
        · (conv => arg 1; ext i; whnf)
          simp only [Bool.not_eq_false'] at h3
          refine Evx.int (wrap_succ (by omega)) ?_
          (conv => arg 1; ext i; whnf)
          refine (ih (a + 1) _ (by omega) (fun _ => by kernel_rfl)).to ?_
          unfold argsOk
          rw [drop_cons hx]; simp [h3]
      · have h2 := hold_false.1 h2
        simp only [refs_len, decide_eq_false_iff_not] at h2
        (conv => arg 1; ext i; whnf)
        unfold argsOk
        rw [List.drop_eq_nil_of_le (by omega)]
        repeat' (first | refine Evx.pure ?_ | (refine Evx.bool (fun h => ?_) (fun h => ?_) <;> (try simp only [hold_eq, seq_dec, bne_iff_ne, beq_iff_eq, ne_eq, Bool.not_eq_true', Bool.not_eq_false', decide_eq_true_eq, decide_eq_false_iff_not, Decidable.not_not, refs_len, fms_len, bne_eq_false_iff_eq, beq_eq_false_iff_ne] at h) <;> (first | (exfalso; omega) | (conv => arg 1; ext i; whnf))) | (refine Evx.call (symbol_ev t.nm ht.nm) ?_; (conv => arg 1; ext i; whnf)))
        all_goals refine bool_out ?_
        all_goals simp_all
        all_goals omega) 0 (fun _ => rfl) (fun _ => rfl) (fun _ => rfl) (fun _ => by kernel_rfl)).to ?_))
  all_goals refine bool_out ?_
  all_goals try simp only [hold_eq, seq_dec, fms_len, refs_len] at *
  all_goals simp_all [fieldsOk, argsOk, bindsB, momentB, Go.Abs.emp]
  all_goals omega
end Go.Proofs.YtehkgiofchmpaaaDoor
