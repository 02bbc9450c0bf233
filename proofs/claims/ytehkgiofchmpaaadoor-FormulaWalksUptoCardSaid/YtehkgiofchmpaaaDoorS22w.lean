/- The nodes of a formula in preorder. No program. -/
import Derived.Test.YtehkgiofchmpaaaDoorS22c
namespace Go.Abs
open Go
set_option linter.unusedVariables false
set_option linter.unusedSimpArgs false
mutual
  def Fm.walk : Fm → List Fm
    | .node o m a f t k => .node o m a f t k :: fwalks k
  def fwalks : List Fm → List Fm
    | [] => []
    | t :: ts => t.walk ++ fwalks ts
end
theorem Fm.walk_eq (t : Fm) : t.walk = t :: fwalks t.ks := by cases t; simp only [Fm.walk, Fm.ks]
mutual
  theorem walk_len : ∀ t : Fm, t.walk.length = t.size
    | .node o m a f t k => by simp only [Fm.walk, Fm.size, List.length_cons]; rw [walks_len k]; omega
  theorem walks_len : ∀ ts : List Fm, (fwalks ts).length = fsizes ts
    | [] => by simp [fwalks, fsizes]
    | t :: ts => by simp only [fwalks, fsizes, List.length_append]; rw [walk_len t, walks_len ts]
end
theorem fwalks_app : ∀ ts us : List Fm, fwalks (ts ++ us) = fwalks ts ++ fwalks us
  | [], us => by simp [fwalks]
  | t :: ts, us => by simp only [List.cons_append, fwalks]; rw [fwalks_app ts us, List.append_assoc]
theorem fwalks_take {ts : List Fm} {i : Nat} {t : Fm} (h : ts[i]? = some t) : fwalks (ts.take (i + 1)) = fwalks (ts.take i) ++ t.walk := by
  rw [take_succ' h, fwalks_app]; simp [fwalks]
theorem walk_at {W : List Fm} {n a : Nat} {t x : Fm} {rest : List Fm} (h : W.drop n = t.walk ++ rest) (hx : t.ks[a]? = some x) : ∃ rest', W.drop (n + 1 + fsizes (t.ks.take a)) = x.walk ++ rest' := by
  refine ⟨fwalks (t.ks.drop (a + 1)) ++ rest, ?_⟩
  have e : fwalks t.ks = fwalks (t.ks.take a) ++ (x.walk ++ fwalks (t.ks.drop (a + 1))) := by
    conv => lhs; rw [← List.take_append_drop a t.ks, drop_cons hx, fwalks_app]
    simp only [fwalks]
  have e2 : W.drop (n + 1 + fsizes (t.ks.take a)) = ((W.drop n).drop 1).drop (fsizes (t.ks.take a)) := by rw [List.drop_drop, List.drop_drop, Nat.add_assoc]
  rw [e2, h, t.walk_eq, List.cons_append, List.drop_succ_cons, List.drop_zero, e, List.append_assoc, ← walks_len, List.drop_left, List.append_assoc]
theorem walk_get {W : List Fm} {n : Nat} {t : Fm} {rest : List Fm} (h : W.drop n = t.walk ++ rest) : W[n]? = some t ∧ n + t.size ≤ W.length := by
  constructor
  · have := congrArg (·[0]?) h
    simp only [List.getElem?_drop, Nat.add_zero] at this
    rw [this, t.walk_eq]; rfl
  · have := congrArg List.length h
    rw [List.length_drop, List.length_append, walk_len] at this
    have := t.size_eq
    omega
/-- A shift by nothing. -/
theorem shift_none (t : Fm) : ∀ n : Int, 0 ≤ n → t.rng → t.mapR (shiftC 0 0) n = t := by
  induction t using Fm.rec' with
  | _ t ih =>
    intro n hn hr
    rw [t.rng_eq] at hr
    rw [Fm.mapR_eq]
    conv => rhs; rw [t.eta]
    congr 1
    · conv => rhs; rw [← List.map_id t.as]
      refine List.map_congr_left fun r hr2 => ?_
      have := hr.1 r hr2
      unfold Rf.rng at this
      unfold shiftC
      split
      · rename_i hc
        have e : IntKind.i64.wrap (r.idx + 0) = r.idx := by
          rw [Int.add_zero]
          unfold IntKind.wrap
          simp only [IntKind.bits, IntKind.signed, Bool.true_and]
          split
          · rename_i h
            have h := of_decide_eq_true h
            omega
          · rename_i h
            have h := of_decide_eq_false (Bool.not_eq_true _ ▸ h)
            omega
        rw [e]; cases r; rfl
      · rfl
    · rw [mapRs_map]
      conv => rhs; rw [← List.map_id t.ks]
      refine List.map_congr_left fun x hx => ?_
      obtain ⟨i, hi⟩ := List.getElem?_of_mem hx
      exact ih i x hi _ (by unfold under; split <;> omega) (rng_mem hr.2 hx)
end Go.Abs
