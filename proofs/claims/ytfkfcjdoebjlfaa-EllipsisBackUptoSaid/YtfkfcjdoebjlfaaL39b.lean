/- The laws of layer 39, walked: the number of Also nodes. -/
import Derived.Test.YtfkfcjdoebjlfaaL39a
import Derived.Test.YtfkfcjdoebjlfaaN31
namespace Go.Proofs.Ytfkfcjdoebjlfaa
open Go Go.Abs Go.Abs.Asks
set_option linter.unusedVariables false
set_option linter.unusedSimpArgs false
set_option linter.unusedSectionVars false
variable [Asks]

theorem rElided_ev (t : Tree) : t.ok → Ev pr 20 [t.d] (.ret [.d (.int .i64 t.also)]) := by
  induction t using Tree.rec' with
  | _ t ih =>
    intro ht
    have hk := ht.ks
    have hs := ok_sizes ht
    apply Ev.enter; intro c; (conv => arg 1; ext i; whnf)
    refine Evx.bool (fun h1 => ?_) (fun h1 => ?_)
    · have e1 : t.fn = sAlso := seq_iff.1 h1
      (conv => arg 1; ext i; whnf)
      have hal := also_eq t
      have hsz := also_size t
      refine (Evx.loop hint20 5 (α := Nat) (fun a => [some (.ptr 1 1 0), some (.d (.int .i64 ((1 + alsos (t.ks.take a) : Nat) : Int))), some (.d (.int .i64 a))]) (fun a => [some (treeBox t)]) 1 [] (fun a => t.ks.length - a) (fun a => .ret [.d (.int .i64 t.also)]) ?_ 0 (fun _ => rfl) (fun _ => rfl) (fun _ => rfl) (fun _ => by kernel_rfl)).to rfl
      intro a bx L ih'; (conv => arg 1; ext i; whnf)
      refine Evx.bool (fun h2 => ?_) (fun h2 => ?_)
      · have h2 := hold_true.1 h2
        simp only [trees_len, decide_eq_true_eq] at h2
        obtain ⟨x, hx⟩ := get_some (l := t.ks) (i := a) (by omega)
        (conv => arg 1; ext i; whnf)
        refine Evx.idx rfl (trees_get hx) ?_
        (conv => arg 1; ext i; whnf)
        refine Evx.call (ih a x hx (ht.kid hx)) ?_
        (conv => arg 1; ext i; whnf)
        have h3 := alsos_take hx
        have h4 := alsos_take_le t.ks (a + 1)
        have h5 := alsos_sizes t.ks
        refine Evx.int (n' := ((1 + alsos (t.ks.take (a + 1)) : Nat) : Int)) (by rw [wrap_small] <;> omega) ?_
        (conv => arg 1; ext i; whnf)
        refine Evx.int (wrap_succ (by omega)) ?_
        (conv => arg 1; ext i; whnf)
        exact ih' (a + 1) _ (by omega) (fun _ => by kernel_rfl)
      · have h2 := hold_false.1 h2
        simp only [trees_len, decide_eq_false_iff_not] at h2
        (conv => arg 1; ext i; whnf)
        refine Evx.pure ?_
        rw [List.take_of_length_le (by omega), hal]
        simp [e1]
    · have e1 : t.fn ≠ sAlso := seq_ne.1 h1
      (conv => arg 1; ext i; whnf)
      have hal := also_eq t
      have hsz := also_size t
      refine (Evx.loop hint20 5 (α := Nat) (fun a => [some (.ptr 1 1 0), some (.d (.int .i64 ((0 + alsos (t.ks.take a) : Nat) : Int))), some (.d (.int .i64 a))]) (fun a => [some (treeBox t)]) 1 [] (fun a => t.ks.length - a) (fun a => .ret [.d (.int .i64 t.also)]) ?_ 0 (fun _ => rfl) (fun _ => rfl) (fun _ => rfl) (fun _ => by kernel_rfl)).to rfl
      intro a bx L ih'; (conv => arg 1; ext i; whnf)
      refine Evx.bool (fun h2 => ?_) (fun h2 => ?_)
      · have h2 := hold_true.1 h2
        simp only [trees_len, decide_eq_true_eq] at h2
        obtain ⟨x, hx⟩ := get_some (l := t.ks) (i := a) (by omega)
        (conv => arg 1; ext i; whnf)
        refine Evx.idx rfl (trees_get hx) ?_
        (conv => arg 1; ext i; whnf)
        refine Evx.call (ih a x hx (ht.kid hx)) ?_
        (conv => arg 1; ext i; whnf)
        have h3 := alsos_take hx
        have h4 := alsos_take_le t.ks (a + 1)
        have h5 := alsos_sizes t.ks
        refine Evx.int (n' := ((0 + alsos (t.ks.take (a + 1)) : Nat) : Int)) (by rw [wrap_small] <;> omega) ?_
        (conv => arg 1; ext i; whnf)
        refine Evx.int (wrap_succ (by omega)) ?_
        (conv => arg 1; ext i; whnf)
        exact ih' (a + 1) _ (by omega) (fun _ => by kernel_rfl)
      · have h2 := hold_false.1 h2
        simp only [trees_len, decide_eq_false_iff_not] at h2
        (conv => arg 1; ext i; whnf)
        refine Evx.pure ?_
        rw [List.take_of_length_le (by omega), hal]
        simp [e1]

theorem elidedLaw_ev (t : Tree) (ht : t.ok) : Ev pr 6 [t.d] (.ret [.d (.bool true)]) := by
  apply Ev.enter; intro c; (conv => arg 1; ext i; whnf)
  have e := few_ev [t] 1 (by simp) (by intro i u hu; cases i with
    | zero => cases hu; exact ht
    | succ i => simp at hu)
  rw [trees_cons] at e
  refine Evx.call e ?_
  (conv => arg 1; ext i; whnf)
  refine Evx.bool (fun h1 => ?_) (fun h1 => ?_)
  · (conv => arg 1; ext i; whnf)
    refine Evx.call awake39_ev ?_
    (conv => arg 1; ext i; whnf)
    exact Evx.pure rfl
  (conv => arg 1; ext i; whnf)
  refine Evx.call awake39_ev ?_
  (conv => arg 1; ext i; whnf)
  refine Evx.call (elided_ev t ht) ?_
  (conv => arg 1; ext i; whnf)
  refine Evx.call (rElided_ev t ht) ?_
  (conv => arg 1; ext i; whnf)
  refine Evx.pure ?_
  rw [hold_eq]; simp
end Go.Proofs.Ytfkfcjdoebjlfaa
