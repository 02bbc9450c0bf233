/- Round 22 walked: the reference's order. -/
import Derived.Test.YtehkgiofchmpaaaDoorW22b
import Derived.Test.YtehkgiofchmpaaaDoorS22c
namespace Go.Proofs.YtehkgiofchmpaaaDoor
open Go Go.Abs Go.Abs.Asks
set_option linter.unusedVariables false
set_option linter.unusedSimpArgs false
set_option linter.unusedSectionVars false
variable [Asks]

theorem int_out {a b : Int} (h : a = b) : (Out.ret [AV.d (D.int .i64 a)] : Out) = Out.ret [AV.d (D.int .i64 b)] := by rw [h]

theorem number_ev (x y : Int) : Ev pr 64 [.int .i64 x, .int .i64 y] (.ret [.d (.int .i64 (numC x y))]) := by
  apply Ev.enter; intro k; (conv => arg 1; ext i; whnf)
  repeat' (first | refine Evx.pure ?_ | (refine Evx.bool (fun h => ?_) (fun h => ?_) <;> (try simp only [hold_eq, seq_dec, bne_iff_ne, beq_iff_eq, ne_eq, Bool.not_eq_true', Bool.not_eq_false', decide_eq_true_eq, decide_eq_false_iff_not, Decidable.not_not, refs_len, fms_len, bne_eq_false_iff_eq, beq_eq_false_iff_ne] at h) <;> (first | (exfalso; omega) | (conv => arg 1; ext i; whnf))))
  all_goals refine int_out ?_
  all_goals unfold numC
  all_goals (repeat' split)
  all_goals omega
theorem text_ev (x y : ByteArray) : Ev pr 65 [.str x, .str y] (.ret [.d (.int .i64 (textC x y))]) := by
  apply Ev.enter; intro k; (conv => arg 1; ext i; whnf)
  repeat' (first | refine Evx.pure ?_ | (refine Evx.bool (fun h => ?_) (fun h => ?_) <;> (try simp only [hold_eq, seq_dec, bne_iff_ne, beq_iff_eq, ne_eq, Bool.not_eq_true', Bool.not_eq_false', decide_eq_true_eq, decide_eq_false_iff_not, Decidable.not_not, refs_len, fms_len, bne_eq_false_iff_eq, beq_eq_false_iff_ne] at h) <;> (first | (exfalso; omega) | (conv => arg 1; ext i; whnf))))
  all_goals refine int_out ?_
  all_goals unfold textC
  all_goals simp_all
theorem rfirst_ev (xs : List Int) (h : xs.length < 2 ^ 30) : Ev pr 63 [.sl 1 (xs.map fun x => [.int .i64 x])] (.ret [.d (.int .i64 (firstC xs))]) := by
  apply Ev.enter; intro k; (conv => arg 1; ext i; whnf)
  refine (Evx.loop hint63 2 (α := Nat) (fun a => [some (.d (.sl 1 (xs.map fun x => [.int .i64 x]))), some (.d (.int .i64 a))]) (fun a => []) 1 [] (fun a => xs.length - a) (fun a => .ret [.d (.int .i64 (firstC (xs.drop a)))]) ?_ 0 (fun _ => rfl) (fun _ => rfl) (fun _ => rfl) (fun _ => by kernel_rfl)).to rfl
  intro a bx L ih; (conv => arg 1; ext i; whnf)
  refine Evx.bool (fun h2 => ?_) (fun h2 => ?_)
  · have h2 := hold_true.1 h2
    simp only [List.length_map, decide_eq_true_eq] at h2
    obtain ⟨x, hx⟩ := get_some (l := xs) (i := a) (by omega)
    have hx' : (xs.map fun x => [D.int .i64 x])[a]? = some [.int .i64 x] := by rw [List.getElem?_map, hx]; rfl
    (conv => arg 1; ext i; whnf)
    refine Evx.idx rfl hx' ?_
    (conv => arg 1; ext i; whnf)
    (refine Evx.bool (fun h => ?_) (fun h => ?_) <;> (try simp only [hold_eq, seq_dec, bne_iff_ne, beq_iff_eq, ne_eq, Bool.not_eq_true', Bool.not_eq_false', decide_eq_true_eq, decide_eq_false_iff_not, Decidable.not_not, refs_len, fms_len, bne_eq_false_iff_eq, beq_eq_false_iff_ne] at h) <;> (first | (exfalso; omega) | (conv => arg 1; ext i; whnf)))
    · refine Evx.idx rfl hx' ?_
      (conv => arg 1; ext i; whnf)
      refine Evx.pure ?_
      rw [drop_cons hx]; simp_all [firstC]
    · refine Evx.int (wrap_succ (by omega)) ?_
      (conv => arg 1; ext i; whnf)
      refine (ih (a + 1) _ (by omega) (fun _ => by kernel_rfl)).to ?_
      rw [drop_cons hx]; simp_all [firstC]
  · have h2 := hold_false.1 h2
    simp only [List.length_map, decide_eq_false_iff_not] at h2
    (conv => arg 1; ext i; whnf)
    refine Evx.pure ?_
    rw [List.drop_eq_nil_of_le (by omega)]; rfl

theorem rargs_ev (xs ys : List Rf) (hx : xs.length < 2 ^ 30) (hy : ys.length < 2 ^ 30) : Ev pr 66 [.sl 3 (refs xs), .sl 3 (refs ys)] (.ret [.d (.int .i64 (refsC xs ys))]) := by
  apply Ev.enter; intro k; (conv => arg 1; ext i; whnf)
  refine (Evx.loop hint66 2 (α := { a : Nat // a ≤ xs.length ∧ a ≤ ys.length }) (fun a => [some (.d (.sl 3 (refs xs))), some (.d (.sl 3 (refs ys))), some (.d (.int .i64 (a.1 : Int)))]) (fun a => []) 1 [] (fun a => xs.length - a.1) (fun a => .ret [.d (.int .i64 (refsC (xs.drop a.1) (ys.drop a.1)))]) ?_ ⟨0, Nat.zero_le _, Nat.zero_le _⟩ (fun _ => rfl) (fun _ => rfl) (fun _ => rfl) (fun _ => by kernel_rfl)).to rfl
  rintro ⟨a, ha1, ha2⟩ bx L ih; (conv => arg 1; ext i; whnf)
  have last : (xs.length ≤ a ∨ ys.length ≤ a) → Ev pr 64 [.int .i64 (refs xs).length, .int .i64 (refs ys).length] (.ret [.d (.int .i64 (refsC (xs.drop a) (ys.drop a)))]) := fun h => by
    rw [refsC_end (h.imp List.drop_eq_nil_of_le List.drop_eq_nil_of_le), ← numC_len ha1 ha2, refs_len, refs_len]
    exact number_ev _ _
  (refine Evx.bool (fun h => ?_) (fun h => ?_) <;> (try simp only [hold_eq, seq_dec, bne_iff_ne, beq_iff_eq, ne_eq, Bool.not_eq_true', Bool.not_eq_false', decide_eq_true_eq, decide_eq_false_iff_not, Decidable.not_not, refs_len, fms_len, bne_eq_false_iff_eq, beq_eq_false_iff_ne] at h) <;> (first | (exfalso; omega) | (conv => arg 1; ext i; whnf)))
  · (refine Evx.bool (fun h => ?_) (fun h => ?_) <;> (try simp only [hold_eq, seq_dec, bne_iff_ne, beq_iff_eq, ne_eq, Bool.not_eq_true', Bool.not_eq_false', decide_eq_true_eq, decide_eq_false_iff_not, Decidable.not_not, refs_len, fms_len, bne_eq_false_iff_eq, beq_eq_false_iff_ne] at h) <;> (first | (exfalso; omega) | (conv => arg 1; ext i; whnf)))
    · obtain ⟨x, hx'⟩ := get_some (l := xs) (i := a) (by omega)
      obtain ⟨y, hy'⟩ := get_some (l := ys) (i := a) (by omega)
      repeat' (first | (refine Evx.idx rfl (refs_get hx') ?_; (conv => arg 1; ext i; whnf)) | (refine Evx.idx rfl (refs_get hy') ?_; (conv => arg 1; ext i; whnf)) | (refine Evx.call (number_ev _ _) ?_; (conv => arg 1; ext i; whnf)) | (refine Evx.call (text_ev _ _) ?_; (conv => arg 1; ext i; whnf)))
      refine Evx.call (rfirst_ev [numC x.kind y.kind, numC x.idx y.idx, textC x.nm y.nm] (by simp)) ?_
      (conv => arg 1; ext i; whnf)
      (refine Evx.bool (fun h => ?_) (fun h => ?_) <;> (try simp only [hold_eq, seq_dec, bne_iff_ne, beq_iff_eq, ne_eq, Bool.not_eq_true', Bool.not_eq_false', decide_eq_true_eq, decide_eq_false_iff_not, Decidable.not_not, refs_len, fms_len, bne_eq_false_iff_eq, beq_eq_false_iff_ne] at h) <;> (first | (exfalso; omega) | (conv => arg 1; ext i; whnf)))
      · refine Evx.pure ?_
        rw [drop_cons hx', drop_cons hy', refsC_cons]
        simp_all [refC]
      · refine Evx.int (wrap_succ (n := a) (by omega)) ?_
        (conv => arg 1; ext i; whnf)
        refine (ih ⟨a + 1, by omega, by omega⟩ _ (by dsimp only; omega) (fun _ => by kernel_rfl)).to ?_
        rw [drop_cons hx', drop_cons hy', refsC_cons]
        simp_all [refC]
    · refine Evx.call (last (by omega)) ?_
      (conv => arg 1; ext i; whnf)
      exact Evx.pure rfl
  · refine Evx.call (last (by omega)) ?_
    (conv => arg 1; ext i; whnf)
    exact Evx.pure rfl

theorem rcmp_ev (t : Fm) : ∀ u : Fm, t.ok → u.ok → Ev pr 34 [t.d, u.d] (.ret [.d (.int .i64 (t.cmp u))]) := by
  induction t using Fm.rec' with
  | _ t ih =>
    intro u ht hu
    have hk := ht.ks
    have hk' := hu.ks
    apply Ev.enter; intro k; (conv => arg 1; ext i; whnf)
    repeat' (first | (refine Evx.call (number_ev _ _) ?_; (conv => arg 1; ext i; whnf)) | (refine Evx.call (text_ev _ _) ?_; (conv => arg 1; ext i; whnf)) | (refine Evx.call (rargs_ev t.as u.as ht.as hu.as) ?_; (conv => arg 1; ext i; whnf)))
    refine Evx.call (rfirst_ev [numC t.op u.op, textC t.nm u.nm, refsC t.as u.as, numC t.fr u.fr, numC t.to u.to] (by simp)) ?_
    (conv => arg 1; ext i; whnf)
    refine (Evx.loop hint34 3 (α := { p : Int × Nat // p.2 ≤ t.ks.length ∧ p.2 ≤ u.ks.length }) (fun p => [some (.ptr 1 2 0), some (.ptr 1 3 0), some (.d (.int .i64 p.1.1)), some (.d (.int .i64 (p.1.2 : Int)))]) (fun p => [some (fmBox t), some (fmBox u)]) 1 [] (fun p => t.ks.length - p.1.2) (fun p => .ret [.d (.int .i64 (if p.1.1 = 0 then cmps (t.ks.drop p.1.2) (u.ks.drop p.1.2) else p.1.1))]) ?_ ⟨(nodeC t u, 0), Nat.zero_le _, Nat.zero_le _⟩ (fun _ => rfl) (fun _ => rfl) (fun _ => rfl) (fun _ => by kernel_rfl)).to (by rw [Fm.cmp_eq]; rfl)
    rintro ⟨⟨c, a⟩, ha1, ha2⟩ bx L ih'; (conv => arg 1; ext i; whnf)
    have last : c ≠ 0 ∨ t.ks.length ≤ a ∨ u.ks.length ≤ a → firstC [c, numC (fms t.ks).length (fms u.ks).length] = if c = 0 then cmps (t.ks.drop a) (u.ks.drop a) else c := fun h => by
      simp only [firstC]
      split
      · rename_i h0
        rw [cmps_end ((h.resolve_left (fun h => h h0)).imp List.drop_eq_nil_of_le List.drop_eq_nil_of_le), ← numC_len ha1 ha2, fms_len, fms_len]
        split <;> simp_all
      · rfl
    have fin : ∀ (h : c ≠ 0 ∨ t.ks.length ≤ a ∨ u.ks.length ≤ a), Ev pr 63 [.sl 1 ([c, numC (fms t.ks).length (fms u.ks).length].map fun x => [.int .i64 x])] (.ret [.d (.int .i64 (if c = 0 then cmps (t.ks.drop a) (u.ks.drop a) else c))]) := fun h => by
      rw [← last h]; exact rfirst_ev _ (by simp)
    (refine Evx.bool (fun h => ?_) (fun h => ?_) <;> (try simp only [hold_eq, seq_dec, bne_iff_ne, beq_iff_eq, ne_eq, Bool.not_eq_true', Bool.not_eq_false', decide_eq_true_eq, decide_eq_false_iff_not, Decidable.not_not, refs_len, fms_len, bne_eq_false_iff_eq, beq_eq_false_iff_ne] at h) <;> (first | (exfalso; omega) | (conv => arg 1; ext i; whnf)))
    · (refine Evx.bool (fun h => ?_) (fun h => ?_) <;> (try simp only [hold_eq, seq_dec, bne_iff_ne, beq_iff_eq, ne_eq, Bool.not_eq_true', Bool.not_eq_false', decide_eq_true_eq, decide_eq_false_iff_not, Decidable.not_not, refs_len, fms_len, bne_eq_false_iff_eq, beq_eq_false_iff_ne] at h) <;> (first | (exfalso; omega) | (conv => arg 1; ext i; whnf)))
      · (refine Evx.bool (fun h => ?_) (fun h => ?_) <;> (try simp only [hold_eq, seq_dec, bne_iff_ne, beq_iff_eq, ne_eq, Bool.not_eq_true', Bool.not_eq_false', decide_eq_true_eq, decide_eq_false_iff_not, Decidable.not_not, refs_len, fms_len, bne_eq_false_iff_eq, beq_eq_false_iff_ne] at h) <;> (first | (exfalso; omega) | (conv => arg 1; ext i; whnf)))
        · obtain ⟨x, hx⟩ := get_some (l := t.ks) (i := a) (by omega)
          obtain ⟨y, hy⟩ := get_some (l := u.ks) (i := a) (by omega)
          refine Evx.idx rfl (fms_get hx) ?_
          (conv => arg 1; ext i; whnf)
          refine Evx.idx rfl (fms_get hy) ?_
          (conv => arg 1; ext i; whnf)
          refine Evx.call (ih a x hx y (ht.kid hx) (hu.kid hy)) ?_
          (conv => arg 1; ext i; whnf)
          refine Evx.int (wrap_succ (n := a) (by omega)) ?_
          (conv => arg 1; ext i; whnf)
          refine (ih' ⟨(x.cmp y, a + 1), by dsimp only; omega, by dsimp only; omega⟩ _ (by dsimp only; omega) (fun _ => by kernel_rfl)).to ?_
          rw [drop_cons hx, drop_cons hy, cmps_cons]
          simp_all
        · refine Evx.call (number_ev _ _) ?_
          (conv => arg 1; ext i; whnf)
          refine Evx.call (fin (by omega)) ?_
          (conv => arg 1; ext i; whnf)
          exact Evx.pure rfl
      · refine Evx.call (number_ev _ _) ?_
        (conv => arg 1; ext i; whnf)
        refine Evx.call (fin (by omega)) ?_
        (conv => arg 1; ext i; whnf)
        exact Evx.pure rfl
    · refine Evx.call (number_ev _ _) ?_
      (conv => arg 1; ext i; whnf)
      refine Evx.call (fin (by omega)) ?_
      (conv => arg 1; ext i; whnf)
      exact Evx.pure rfl

theorem rsame_ev (t u : Fm) (ht : t.ok) (hu : u.ok) : Ev pr 20 [t.d, u.d] (.ret [.d (.bool (decide (t.cmp u = 0)))]) := by
  apply Ev.enter; intro k; (conv => arg 1; ext i; whnf)
  refine Evx.call (rcmp_ev t u ht hu) ?_
  (conv => arg 1; ext i; whnf)
  refine Evx.pure ?_
  refine bool_out ?_
  simp [hold_eq]
end Go.Proofs.YtehkgiofchmpaaaDoor
