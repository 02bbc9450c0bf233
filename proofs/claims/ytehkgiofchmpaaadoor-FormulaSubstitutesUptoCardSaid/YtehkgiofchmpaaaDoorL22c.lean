/- The reference's order once more, where the bytes of names are not bounded; the law of Substitute. -/
import Derived.Test.YtehkgiofchmpaaaDoorL22b
namespace Go.Abs
mutual
  /-- Nodes and references. -/
  def Fm.cnt : Fm → Nat
    | .node _ _ a _ _ k => 1 + a.length + cnts k
  def cnts : List Fm → Nat
    | [] => 0
    | t :: ts => t.cnt + cnts ts
end
theorem Fm.cnt_eq (t : Fm) : t.cnt = 1 + t.as.length + cnts t.ks := by cases t; simp only [Fm.cnt, Fm.as, Fm.ks]
theorem cnts_len : ∀ ts : List Fm, ts.length ≤ cnts ts
  | [] => by simp [cnts]
  | t :: ts => by simp only [cnts, List.length_cons]; have := cnts_len ts; have := t.cnt_eq; omega
theorem cnt_mem : ∀ {ts : List Fm} {t : Fm}, t ∈ ts → t.cnt ≤ cnts ts
  | u :: ts, t, h => by
    simp only [cnts]
    rcases List.mem_cons.1 h with rfl | h
    · omega
    · have := cnt_mem h; omega
def Fm.slim (t : Fm) : Prop := t.cnt < 2 ^ 30
theorem Fm.slim.as {t : Fm} (h : t.slim) : t.as.length < 2 ^ 30 := by unfold Fm.slim at h; rw [t.cnt_eq] at h; omega
theorem Fm.slim.ks {t : Fm} (h : t.slim) : t.ks.length < 2 ^ 30 := by unfold Fm.slim at h; rw [t.cnt_eq] at h; have := cnts_len t.ks; omega
theorem Fm.slim.kid {t u : Fm} {i : Nat} (h : t.slim) (hk : t.ks[i]? = some u) : u.slim := by
  unfold Fm.slim at h ⊢; rw [t.cnt_eq] at h; have := cnt_mem (List.mem_of_getElem? hk); omega
mutual
  theorem cnt_bulk : ∀ t : Fm, t.cnt ≤ t.bulk
    | .node o m a f t k => by simp only [Fm.cnt, Fm.bulk]; have := cnts_bulks k; have := rbulks_len a; omega
  theorem cnts_bulks : ∀ ts : List Fm, cnts ts ≤ fbulks ts
    | [] => by simp [cnts, fbulks]
    | t :: ts => by simp only [cnts, fbulks]; have := cnt_bulk t; have := cnts_bulks ts; omega
end
theorem Fm.ok.slim {t : Fm} (h : t.ok) : t.slim := by unfold Fm.slim; unfold Fm.ok at h; have := cnt_bulk t; omega
mutual
  theorem mapR_cnt (ch : Rf → Int → Rf) : ∀ (t : Fm) (n : Int), (t.mapR ch n).cnt = t.cnt
    | .node o m a f t k, n => by
      unfold Fm.mapR
      simp only [Fm.cnt, List.length_map]
      rw [mapRs_cnt ch k]
  theorem mapRs_cnt (ch : Rf → Int → Rf) : ∀ (ts : List Fm) (n : Int), cnts (mapRs ch ts n) = cnts ts
    | [], n => by simp [mapRs]
    | t :: ts, n => by simp only [mapRs, cnts]; rw [mapR_cnt ch t, mapRs_cnt ch ts]
end
end Go.Abs
namespace Go.Proofs.YtehkgiofchmpaaaDoor
open Go Go.Abs Go.Abs.Asks
set_option linter.unusedVariables false
set_option linter.unusedSimpArgs false
set_option linter.unusedSectionVars false
variable [Asks]

theorem rcmpS_ev (t : Fm) : ∀ u : Fm, t.slim → u.slim → Ev pr 34 [t.d, u.d] (.ret [.d (.int .i64 (t.cmp u))]) := by
  induction t using Fm.rec' with
  | _ t ih =>
    intro u ht hu
    have hk := ht.ks
    have hk' := hu.ks
    apply Ev.enter; intro k; (conv => arg 1; ext i; whnf)
    repeat' (first | (refine Evx.call (number_ev _ _) ?_; (conv => arg 1; ext i; whnf)) | (refine Evx.call (text_ev _ _) ?_; (conv => arg 1; ext i; whnf)) | (refine Evx.call (rargs_ev t.as u.as ht.as hu.as) ?_; (conv => arg 1; ext i; whnf)))
    refine Evx.call (rfirst_ev [numC t.op u.op, textC t.nm u.nm, refsC t.as u.as, numC t.fr u.fr, numC t.to u.to] (by simp)) ?_
    (conv => arg 1; ext i; whnf)
    refine (Evx.loop hint34 3 (α := { p : Int × Nat // p.2 ≤ t.ks.length ∧ p.2 ≤ u.ks.length }) (fun p => [some (.ptr 1 2 0), some (.ptr 1 3 0), some (.d (.int .i64 p.1.1)), some (.d (.int .i64 (p.1.2 : Int)))]) (fun p => [some (fmBox t), some (fmBox u)]) 1 [] (fun p => t.ks.length - p.1.2) (fun p => .ret [.d (.int .i64 (if p.1.1 = 0 then cmps (t.ks.drop p.1.2) (u.ks.drop p.1.2) else p.1.1))]) ?_ ⟨(nodeC t u, 0), Nat.zero_le _, Nat.zero_le _⟩ (fun _ => rfl) (fun _ => rfl) (fun _ => rfl) (fun _ => by kernel_rfl)).to (by rw [Fm.cmp_eq]; rfl)
    rintro ⟨⟨c, a⟩, ha1, ha2⟩ bx L ih'; (conv => arg 1; ext i; whnf)
    have last : c ≠ 0 ∨ t.ks.length ≤ a ∨ u.ks.length ≤ a → firstC [c, numC (fms t.ks).length (fms u.ks).length] = if c = 0 then cmps (t.ks.drop a) (u.ks.drop a) else c := fun h => by
      simp only [firstC]
      split
      · rename_i h0
        rw [cmps_end ((h.resolve_left (fun h => h h0)).imp List.drop_eq_nil_of_le List.drop_eq_nil_of_le), ← numC_len ha1 ha2, fms_len, fms_len]
        split <;> simp_all
      · rfl
    have fin : ∀ (h : c ≠ 0 ∨ t.ks.length ≤ a ∨ u.ks.length ≤ a), Ev pr 63 [.sl 1 ([c, numC (fms t.ks).length (fms u.ks).length].map fun x => [.int .i64 x])] (.ret [.d (.int .i64 (if c = 0 then cmps (t.ks.drop a) (u.ks.drop a) else c))]) := fun h => by
      rw [← last h]; exact rfirst_ev _ (by simp)
    (refine Evx.bool (fun h => ?_) (fun h => ?_) <;> (try simp only [hold_eq, seq_dec, bne_iff_ne, beq_iff_eq, ne_eq, Bool.not_eq_true', Bool.not_eq_false', decide_eq_true_eq, decide_eq_false_iff_not, Decidable.not_not, refs_len, fms_len, bne_eq_false_iff_eq, beq_eq_false_iff_ne] at h) <;> (first | (exfalso; omega) | (conv => arg 1; ext i; whnf)))
    · (refine Evx.bool (fun h => ?_) (fun h => ?_) <;> (try simp only [hold_eq, seq_dec, bne_iff_ne, beq_iff_eq, ne_eq, Bool.not_eq_true', Bool.not_eq_false', decide_eq_true_eq, decide_eq_false_iff_not, Decidable.not_not, refs_len, fms_len, bne_eq_false_iff_eq, beq_eq_false_iff_ne] at h) <;> (first | (exfalso; omega) | (conv => arg 1; ext i; whnf)))
      · (refine Evx.bool (fun h => ?_) (fun h => ?_) <;> (try simp only [hold_eq, seq_dec, bne_iff_ne, beq_iff_eq, ne_eq, Bool.not_eq_true', Bool.not_eq_false', decide_eq_true_eq, decide_eq_false_iff_not, Decidable.not_not, refs_len, fms_len, bne_eq_false_iff_eq, beq_eq_false_iff_ne] at h) <;> (first | (exfalso; omega) | (conv => arg 1; ext i; whnf)))
        · obtain ⟨x, hx⟩ := get_some (l := t.ks) (i := a) (by omega)
          obtain ⟨y, hy⟩ := get_some (l := u.ks) (i := a) (by omega)
          refine Evx.idx rfl (fms_get hx) ?_
          (conv => arg 1; ext i; whnf)
          refine Evx.idx rfl (fms_get hy) ?_
          (conv => arg 1; ext i; whnf)
          refine Evx.call (ih a x hx y (ht.kid hx) (hu.kid hy)) ?_
          (conv => arg 1; ext i; whnf)
          refine Evx.int (wrap_succ (n := a) (by omega)) ?_
          (conv => arg 1; ext i; whnf)
          refine (ih' ⟨(x.cmp y, a + 1), by dsimp only; omega, by dsimp only; omega⟩ _ (by dsimp only; omega) (fun _ => by kernel_rfl)).to ?_
          rw [drop_cons hx, drop_cons hy, cmps_cons]
          simp_all
        · refine Evx.call (number_ev _ _) ?_
          (conv => arg 1; ext i; whnf)
          refine Evx.call (fin (by omega)) ?_
          (conv => arg 1; ext i; whnf)
          exact Evx.pure rfl
      · refine Evx.call (number_ev _ _) ?_
        (conv => arg 1; ext i; whnf)
        refine Evx.call (fin (by omega)) ?_
        (conv => arg 1; ext i; whnf)
        exact Evx.pure rfl
    · refine Evx.call (number_ev _ _) ?_
      (conv => arg 1; ext i; whnf)
      refine Evx.call (fin (by omega)) ?_
      (conv => arg 1; ext i; whnf)
      exact Evx.pure rfl

theorem rsameS_ev (t u : Fm) (ht : t.slim) (hu : u.slim) : Ev pr 20 [t.d, u.d] (.ret [.d (.bool (decide (t.cmp u = 0)))]) := by
  apply Ev.enter; intro k; (conv => arg 1; ext i; whnf)
  refine Evx.call (rcmpS_ev t u ht hu) ?_
  (conv => arg 1; ext i; whnf)
  refine Evx.pure ?_
  refine bool_out ?_
  simp [hold_eq]

theorem same_self_ev (t : Fm) (ht : t.slim) : Ev pr 20 [t.d, t.d] (.ret [.d (.bool true)]) := by
  have := rsameS_ev t t ht ht
  rwa [cmp_self] at this

theorem rSubst_ev (t : Fm) (q : Rf) (ht : t.ok) : Ev pr 27 [t.d, q.d] (.ret [.d (t.mapD (substC q) 0)]) := by
  have hd := depth_small ht
  apply Ev.enter; intro k; (conv => arg 1; ext i; whnf)
  refine Evx.call (rreplace_ev q t 0 ht (by omega) (by omega)) ?_
  (conv => arg 1; ext i; whnf)
  exact Evx.pure rfl

/-- THE LAW of Substitute. -/
theorem substitutesLaw_ev (t : Fm) (q : Rf) (ht : t.ok) (hq : q.nm.size < 2 ^ 30) : Ev pr 8 [t.d, q.d] (.ret [.d (.bool true)]) := by
  apply Ev.enter; intro c; (conv => arg 1; ext i; whnf)
  refine Evx.call awake22_ev ?_
  (conv => arg 1; ext i; whnf)
  refine Evx.call (any_ev t ht) ?_
  (conv => arg 1; ext i; whnf)
  (refine Evx.bool (fun h => ?_) (fun h => ?_) <;> (try simp only [hold_eq, seq_dec, bne_iff_ne, beq_iff_eq, ne_eq, Bool.not_eq_true', Bool.not_eq_false', decide_eq_true_eq, decide_eq_false_iff_not, Decidable.not_not, refs_len, fms_len, bne_eq_false_iff_eq, beq_eq_false_iff_ne] at h) <;> (first | (exfalso; omega) | (conv => arg 1; ext i; whnf)))
  · exact Evx.pure rfl
  · refine Evx.call (rref_ev q _ hq) ?_
    (conv => arg 1; ext i; whnf)
    (refine Evx.bool (fun h => ?_) (fun h => ?_) <;> (try simp only [hold_eq, seq_dec, bne_iff_ne, beq_iff_eq, ne_eq, Bool.not_eq_true', Bool.not_eq_false', decide_eq_true_eq, decide_eq_false_iff_not, Decidable.not_not, refs_len, fms_len, bne_eq_false_iff_eq, beq_eq_false_iff_ne] at h) <;> (first | (exfalso; omega) | (conv => arg 1; ext i; whnf)))
    · exact Evx.pure rfl
    · refine Evx.call (subst_ev t q ht) ?_
      (conv => arg 1; ext i; whnf)
      refine Evx.call (rSubst_ev t q ht) ?_
      (conv => arg 1; ext i; whnf)
      have key : Ev pr 20 [t.mapD (substC q) 0, t.mapD (substC q) 0] (.ret [.d (.bool true)]) := by
        rw [← mapR_d]
        exact same_self_ev _ (by unfold Fm.slim; rw [mapR_cnt]; exact ht.slim)
      refine Evx.call key ?_
      (conv => arg 1; ext i; whnf)
      exact Evx.pure rfl
end Go.Proofs.YtehkgiofchmpaaaDoor
