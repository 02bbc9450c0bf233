/- Round 22 walked: the program's order. -/
import Derived.Test.YtehkgiofchmpaaaDoorW22c
namespace Go.Proofs.YtehkgiofchmpaaaDoor
open Go Go.Abs Go.Abs.Asks
set_option linter.unusedVariables false
set_option linter.unusedSimpArgs false
set_option linter.unusedSectionVars false
variable [Asks]

theorem nanI_ev (x : Int) : Ev pr 92 [.int .i64 x] (.ret [.d (.bool false)]) := by
  apply Ev.enter; intro k; (conv => arg 1; ext i; whnf)
  refine Evx.pure ?_
  simp [hold_eq]
theorem nanS_ev (x : ByteArray) : Ev pr 93 [.str x] (.ret [.d (.bool false)]) := by
  apply Ev.enter; intro k; (conv => arg 1; ext i; whnf)
  refine Evx.pure ?_
  simp [seq_dec]
theorem cmpI_ev (x y : Int) : Ev pr 58 [.int .i64 x, .int .i64 y] (.ret [.d (.int .i64 (numC x y))]) := by
  apply Ev.enter; intro k; (conv => arg 1; ext i; whnf)
  refine Evx.call (nanI_ev x) ?_
  (conv => arg 1; ext i; whnf)
  refine Evx.call (nanI_ev y) ?_
  (conv => arg 1; ext i; whnf)
  repeat' (first | refine Evx.pure ?_ | (refine Evx.bool (fun h => ?_) (fun h => ?_) <;> (try simp only [hold_eq, seq_dec, bne_iff_ne, beq_iff_eq, ne_eq, Bool.not_eq_true', Bool.not_eq_false', decide_eq_true_eq, decide_eq_false_iff_not, Decidable.not_not, refs_len, fms_len, bne_eq_false_iff_eq, beq_eq_false_iff_ne] at h) <;> (first | (exfalso; omega) | (conv => arg 1; ext i; whnf))))
  all_goals refine int_out ?_
  all_goals unfold numC
  all_goals (repeat' split)
  all_goals omega
theorem cmpS_ev (x y : ByteArray) : Ev pr 59 [.str x, .str y] (.ret [.d (.int .i64 (textC x y))]) := by
  apply Ev.enter; intro k; (conv => arg 1; ext i; whnf)
  refine Evx.call (nanS_ev x) ?_
  (conv => arg 1; ext i; whnf)
  refine Evx.call (nanS_ev y) ?_
  (conv => arg 1; ext i; whnf)
  repeat' (first | refine Evx.pure ?_ | (refine Evx.bool (fun h => ?_) (fun h => ?_) <;> (try simp only [hold_eq, seq_dec, bne_iff_ne, beq_iff_eq, ne_eq, Bool.not_eq_true', Bool.not_eq_false', decide_eq_true_eq, decide_eq_false_iff_not, Decidable.not_not, refs_len, fms_len, bne_eq_false_iff_eq, beq_eq_false_iff_ne] at h) <;> (first | (exfalso; omega) | (conv => arg 1; ext i; whnf))))
  all_goals refine int_out ?_
  all_goals unfold textC
  all_goals simp_all
theorem or_ev (xs : List Int) (h : xs.length < 2 ^ 30) : Ev pr 57 [.sl 1 (xs.map fun x => [.int .i64 x])] (.ret [.d (.int .i64 (firstC xs))]) := by
  apply Ev.enter; intro k; (conv => arg 1; ext i; whnf)
  refine (Evx.loop hint57 3 (α := Nat) (fun a => [some (.d (.int .i64 0)), some (.d (.sl 1 (xs.map fun x => [.int .i64 x]))), some (.d (.int .i64 (xs.map fun x => [D.int .i64 x]).length)), some (.d (.int .i64 a))]) (fun a => []) 1 [] (fun a => xs.length - a) (fun a => .ret [.d (.int .i64 (firstC (xs.drop a)))]) ?_ 0 (fun _ => rfl) (fun _ => rfl) (fun _ => rfl) (fun _ => by kernel_rfl)).to rfl
  intro a bx L ih; (conv => arg 1; ext i; whnf)
  refine Evx.bool (fun h2 => ?_) (fun h2 => ?_)
  · have h2 := hold_true.1 h2
    simp only [List.length_map, decide_eq_true_eq] at h2
    obtain ⟨x, hx⟩ := get_some (l := xs) (i := a) (by omega)
    have hx' : (xs.map fun x => [D.int .i64 x])[a]? = some [.int .i64 x] := by rw [List.getElem?_map, hx]; rfl
    (conv => arg 1; ext i; whnf)
    refine Evx.idx rfl hx' ?_
    (conv => arg 1; ext i; whnf)
    (refine Evx.bool (fun h => ?_) (fun h => ?_) <;> (try simp only [hold_eq, seq_dec, bne_iff_ne, beq_iff_eq, ne_eq, Bool.not_eq_true', Bool.not_eq_false', decide_eq_true_eq, decide_eq_false_iff_not, Decidable.not_not, refs_len, fms_len, bne_eq_false_iff_eq, beq_eq_false_iff_ne] at h) <;> (first | (exfalso; omega) | (conv => arg 1; ext i; whnf)))
    · refine Evx.pure ?_
      rw [drop_cons hx]; simp_all [firstC]
    · refine Evx.int (wrap_succ (by omega)) ?_
      (conv => arg 1; ext i; whnf)
      refine (ih (a + 1) _ (by omega) (fun _ => by kernel_rfl)).to ?_
      rw [drop_cons hx]; simp_all [firstC]
  · have h2 := hold_false.1 h2
    simp only [List.length_map, decide_eq_false_iff_not] at h2
    (conv => arg 1; ext i; whnf)
    refine Evx.pure ?_
    rw [List.drop_eq_nil_of_le (by omega)]; rfl

theorem crefs_ev (x y : Rf) : Ev pr 61 [x.d, y.d] (.ret [.d (.int .i64 (refC x y))]) := by
  apply Ev.enter; intro k; (conv => arg 1; ext i; whnf)
  repeat' (first | (refine Evx.call (cmpI_ev _ _) ?_; (conv => arg 1; ext i; whnf)) | (refine Evx.call (cmpS_ev _ _) ?_; (conv => arg 1; ext i; whnf)))
  refine Evx.call (or_ev [numC x.kind y.kind, numC x.idx y.idx, textC x.nm y.nm] (by simp)) ?_
  (conv => arg 1; ext i; whnf)
  exact Evx.pure rfl

theorem cmpRefs_ev (xs ys : List Rf) (hxl : xs.length < 2 ^ 30) (hyl : ys.length < 2 ^ 30) (E : ∀ (i : Nat) (x y : Rf), xs[i]? = some x → ys[i]? = some y → Ev pr 61 [x.d, y.d] (.ret [.d (.int .i64 (refC x y))])) :
    Ev pr 60 [.sl 3 (refs xs), .sl 3 (refs ys), .fn (.func 61) []] (.ret [.d (.int .i64 (refsC xs ys))]) := by
  apply Ev.enter; intro k; (conv => arg 1; ext i; whnf)
  refine (Evx.loop hint60 2 (α := { a : Nat // a ≤ xs.length ∧ a ≤ ys.length }) (fun a => [some (.d (.sl 3 (refs xs))), some (.d (.sl 3 (refs ys))), some (.d (.fn (.func 61) [])), some (.d (.sl 3 (refs xs))), some (.d (.int .i64 (refs xs).length)), some (.d (.int .i64 (a.1 : Int)))]) (fun a => []) 1 [] (fun a => xs.length - a.1) (fun a => .ret [.d (.int .i64 (refsC (xs.drop a.1) (ys.drop a.1)))]) ?_ ⟨0, Nat.zero_le _, Nat.zero_le _⟩ (fun _ => rfl) (fun _ => rfl) (fun _ => rfl) (fun _ => by kernel_rfl)).to rfl
  rintro ⟨a, ha1, ha2⟩ bx L ih; (conv => arg 1; ext i; whnf)
  (refine Evx.bool (fun h => ?_) (fun h => ?_) <;> (try simp only [hold_eq, seq_dec, bne_iff_ne, beq_iff_eq, ne_eq, Bool.not_eq_true', Bool.not_eq_false', decide_eq_true_eq, decide_eq_false_iff_not, Decidable.not_not, refs_len, fms_len, bne_eq_false_iff_eq, beq_eq_false_iff_ne] at h) <;> (first | (exfalso; omega) | (conv => arg 1; ext i; whnf)))
  · obtain ⟨x, hx⟩ := get_some (l := xs) (i := a) (by omega)
    refine Evx.idx rfl (refs_get hx) ?_
    (conv => arg 1; ext i; whnf)
    (refine Evx.bool (fun h => ?_) (fun h => ?_) <;> (try simp only [hold_eq, seq_dec, bne_iff_ne, beq_iff_eq, ne_eq, Bool.not_eq_true', Bool.not_eq_false', decide_eq_true_eq, decide_eq_false_iff_not, Decidable.not_not, refs_len, fms_len, bne_eq_false_iff_eq, beq_eq_false_iff_ne] at h) <;> (first | (exfalso; omega) | (conv => arg 1; ext i; whnf)))
    · refine Evx.pure ?_
      rw [drop_cons hx, List.drop_eq_nil_of_le (by omega : ys.length ≤ a)]
      simp [refsC]
    · obtain ⟨y, hy⟩ := get_some (l := ys) (i := a) (by omega)
      refine Evx.idx rfl (refs_get hy) ?_
      (conv => arg 1; ext i; whnf)
      refine Evx.call (E a x y hx hy) ?_
      (conv => arg 1; ext i; whnf)
      (refine Evx.bool (fun h => ?_) (fun h => ?_) <;> (try simp only [hold_eq, seq_dec, bne_iff_ne, beq_iff_eq, ne_eq, Bool.not_eq_true', Bool.not_eq_false', decide_eq_true_eq, decide_eq_false_iff_not, Decidable.not_not, refs_len, fms_len, bne_eq_false_iff_eq, beq_eq_false_iff_ne] at h) <;> (first | (exfalso; omega) | (conv => arg 1; ext i; whnf)))
      · refine Evx.pure ?_
        rw [drop_cons hx, drop_cons hy, refsC_cons]
        simp_all
      · refine Evx.int (wrap_succ (n := a) (by omega)) ?_
        (conv => arg 1; ext i; whnf)
        refine (ih ⟨a + 1, by omega, by omega⟩ _ (by dsimp only; omega) (fun _ => by kernel_rfl)).to ?_
        rw [drop_cons hx, drop_cons hy, refsC_cons]
        simp_all
  · rw [List.drop_eq_nil_of_le (by omega : xs.length ≤ a)]
    (refine Evx.bool (fun h => ?_) (fun h => ?_) <;> (try simp only [hold_eq, seq_dec, bne_iff_ne, beq_iff_eq, ne_eq, Bool.not_eq_true', Bool.not_eq_false', decide_eq_true_eq, decide_eq_false_iff_not, Decidable.not_not, refs_len, fms_len, bne_eq_false_iff_eq, beq_eq_false_iff_ne] at h) <;> (first | (exfalso; omega) | (conv => arg 1; ext i; whnf)))
    · obtain ⟨y, hy⟩ := get_some (l := ys) (i := a) (by omega)
      refine Evx.pure ?_
      rw [drop_cons hy]
      simp [refsC]
    · rw [List.drop_eq_nil_of_le (by omega : ys.length ≤ a)]
      refine Evx.pure ?_
      simp [refsC]
theorem cmpFms_ev (xs ys : List Fm) (hxl : xs.length < 2 ^ 30) (hyl : ys.length < 2 ^ 30) (E : ∀ (i : Nat) (x y : Fm), xs[i]? = some x → ys[i]? = some y → Ev pr 33 [x.d, y.d] (.ret [.d (.int .i64 (Fm.cmp x y))])) :
    Ev pr 62 [.sl 6 (fms xs), .sl 6 (fms ys), .fn (.func 33) []] (.ret [.d (.int .i64 (cmps xs ys))]) := by
  apply Ev.enter; intro k; (conv => arg 1; ext i; whnf)
  refine (Evx.loop hint62 2 (α := { a : Nat // a ≤ xs.length ∧ a ≤ ys.length }) (fun a => [some (.d (.sl 6 (fms xs))), some (.d (.sl 6 (fms ys))), some (.d (.fn (.func 33) [])), some (.d (.sl 6 (fms xs))), some (.d (.int .i64 (fms xs).length)), some (.d (.int .i64 (a.1 : Int)))]) (fun a => []) 1 [] (fun a => xs.length - a.1) (fun a => .ret [.d (.int .i64 (cmps (xs.drop a.1) (ys.drop a.1)))]) ?_ ⟨0, Nat.zero_le _, Nat.zero_le _⟩ (fun _ => rfl) (fun _ => rfl) (fun _ => rfl) (fun _ => by kernel_rfl)).to rfl
  rintro ⟨a, ha1, ha2⟩ bx L ih; (conv => arg 1; ext i; whnf)
  (refine Evx.bool (fun h => ?_) (fun h => ?_) <;> (try simp only [hold_eq, seq_dec, bne_iff_ne, beq_iff_eq, ne_eq, Bool.not_eq_true', Bool.not_eq_false', decide_eq_true_eq, decide_eq_false_iff_not, Decidable.not_not, refs_len, fms_len, bne_eq_false_iff_eq, beq_eq_false_iff_ne] at h) <;> (first | (exfalso; omega) | (conv => arg 1; ext i; whnf)))
  · obtain ⟨x, hx⟩ := get_some (l := xs) (i := a) (by omega)
    refine Evx.idx rfl (fms_get hx) ?_
    (conv => arg 1; ext i; whnf)
    (refine Evx.bool (fun h => ?_) (fun h => ?_) <;> (try simp only [hold_eq, seq_dec, bne_iff_ne, beq_iff_eq, ne_eq, Bool.not_eq_true', Bool.not_eq_false', decide_eq_true_eq, decide_eq_false_iff_not, Decidable.not_not, refs_len, fms_len, bne_eq_false_iff_eq, beq_eq_false_iff_ne] at h) <;> (first | (exfalso; omega) | (conv => arg 1; ext i; whnf)))
    · refine Evx.pure ?_
      rw [drop_cons hx, List.drop_eq_nil_of_le (by omega : ys.length ≤ a)]
      simp [cmps]
    · obtain ⟨y, hy⟩ := get_some (l := ys) (i := a) (by omega)
      refine Evx.idx rfl (fms_get hy) ?_
      (conv => arg 1; ext i; whnf)
      refine Evx.call (E a x y hx hy) ?_
      (conv => arg 1; ext i; whnf)
      (refine Evx.bool (fun h => ?_) (fun h => ?_) <;> (try simp only [hold_eq, seq_dec, bne_iff_ne, beq_iff_eq, ne_eq, Bool.not_eq_true', Bool.not_eq_false', decide_eq_true_eq, decide_eq_false_iff_not, Decidable.not_not, refs_len, fms_len, bne_eq_false_iff_eq, beq_eq_false_iff_ne] at h) <;> (first | (exfalso; omega) | (conv => arg 1; ext i; whnf)))
      · refine Evx.pure ?_
        rw [drop_cons hx, drop_cons hy, cmps_cons]
        simp_all
      · refine Evx.int (wrap_succ (n := a) (by omega)) ?_
        (conv => arg 1; ext i; whnf)
        refine (ih ⟨a + 1, by omega, by omega⟩ _ (by dsimp only; omega) (fun _ => by kernel_rfl)).to ?_
        rw [drop_cons hx, drop_cons hy, cmps_cons]
        simp_all
  · rw [List.drop_eq_nil_of_le (by omega : xs.length ≤ a)]
    (refine Evx.bool (fun h => ?_) (fun h => ?_) <;> (try simp only [hold_eq, seq_dec, bne_iff_ne, beq_iff_eq, ne_eq, Bool.not_eq_true', Bool.not_eq_false', decide_eq_true_eq, decide_eq_false_iff_not, Decidable.not_not, refs_len, fms_len, bne_eq_false_iff_eq, beq_eq_false_iff_ne] at h) <;> (first | (exfalso; omega) | (conv => arg 1; ext i; whnf)))
    · obtain ⟨y, hy⟩ := get_some (l := ys) (i := a) (by omega)
      refine Evx.pure ?_
      rw [drop_cons hy]
      simp [cmps]
    · rw [List.drop_eq_nil_of_le (by omega : ys.length ≤ a)]
      refine Evx.pure ?_
      simp [cmps]

theorem firstC_last (x1 x2 x3 x4 x5 y : Int) : firstC [x1, x2, x3, x4, x5, y] = if firstC [x1, x2, x3, x4, x5] = 0 then y else firstC [x1, x2, x3, x4, x5] := by
  simp only [firstC]
  repeat' split
  all_goals simp_all
theorem pcmp_ev (t : Fm) : ∀ u : Fm, t.ok → u.ok → Ev pr 33 [t.d, u.d] (.ret [.d (.int .i64 (t.cmp u))]) := by
  induction t using Fm.rec' with
  | _ t ih =>
    intro u ht hu
    apply Ev.enter; intro k; (conv => arg 1; ext i; whnf)
    repeat' (first | (refine Evx.call (cmpI_ev _ _) ?_; (conv => arg 1; ext i; whnf)) | (refine Evx.call (cmpS_ev _ _) ?_; (conv => arg 1; ext i; whnf)) | (refine Evx.call (cmpRefs_ev t.as u.as ht.as hu.as fun _ x y _ _ => crefs_ev x y) ?_; (conv => arg 1; ext i; whnf)) | (refine Evx.call (cmpFms_ev t.ks u.ks ht.ks hu.ks fun i x y hx hy => ih i x hx y (ht.kid hx) (hu.kid hy)) ?_; (conv => arg 1; ext i; whnf)))
    refine Evx.call (or_ev [numC t.op u.op, textC t.nm u.nm, refsC t.as u.as, numC t.fr u.fr, numC t.to u.to, cmps t.ks u.ks] (by simp)) ?_
    (conv => arg 1; ext i; whnf)
    refine Evx.pure ?_
    rw [firstC_last, Fm.cmp_eq]
    rfl
end Go.Proofs.YtehkgiofchmpaaaDoor
