/- Layer 31 walked: equality, sizes, copies. -/
import Derived.Test.YtfiefcfjedmhaaaDoorPr
import Derived.Test.YtfiefcfjedmhaaaDoorS31
import Derived.KernelRfl
namespace Go.Proofs.YtfiefcfjedmhaaaDoor
open Go Go.Abs Go.Abs.Asks
set_option linter.unusedVariables false
set_option linter.unusedSimpArgs false
set_option linter.unusedSectionVars false
variable [Asks]

theorem equal_ints (xs ys : List Int) (h : xs.length < 2 ^ 40) : Ev pr 32 [.sl 1 (ints xs), .sl 1 (ints ys)] (.ret [.d (.bool (decide (xs = ys)))]) := by
  apply Ev.enter; intro c; (conv => arg 1; ext i; whnf)
  refine Evx.bool (fun h1 => ?_) (fun h1 => ?_)
  · (conv => arg 1; ext i; whnf)
    refine Evx.pure ?_
    have h1 := hold_true.1 h1
    simp only [ints_len, bne_iff_ne, ne_eq] at h1
    rw [decide_eq_false (fun e => h1 (by rw [e]))]
  · (conv => arg 1; ext i; whnf)
    have h1 := hold_false.1 h1
    simp only [ints_len, bne_eq_false_iff_eq] at h1
    have hl : xs.length = ys.length := by omega
    refine (Evx.loop hint32 4 (α := Nat) (fun a => [some (.d (.sl 1 (ints xs))), some (.d (.sl 1 (ints ys))), some (.d (.int .i64 (ints xs).length)), some (.d (.int .i64 a))]) (fun a => []) 1 [] (fun a => xs.length - a) (fun a => .ret [.d (.bool (decide (xs.drop a = ys.drop a)))]) ?_ 0 (fun _ => rfl) (fun _ => rfl) (fun _ => rfl) (fun _ => by kernel_rfl)).to (by simp)
    intro a bx L ih; (conv => arg 1; ext i; whnf)
    refine Evx.bool (fun h2 => ?_) (fun h2 => ?_)
    · (conv => arg 1; ext i; whnf)
      have h2 := hold_true.1 h2
      simp only [ints_len, decide_eq_true_eq] at h2
      obtain ⟨x, hx⟩ := get_some (l := xs) (i := a) (by omega)
      obtain ⟨y, hy⟩ := get_some (l := ys) (i := a) (by omega)
      refine Evx.idx rfl (ints_get hx) ?_
      (conv => arg 1; ext i; whnf)
      refine Evx.idx rfl (ints_get hy) ?_
      (conv => arg 1; ext i; whnf)
      refine Evx.bool (fun h3 => ?_) (fun h3 => ?_)
      · (conv => arg 1; ext i; whnf)
        have h3 := hold_true.1 h3
        refine Evx.pure ?_
        rw [drop_cons hx, drop_cons hy]
        simp only [bne_iff_ne, ne_eq] at h3
        simp [h3]
      · (conv => arg 1; ext i; whnf)
        have h3 := hold_false.1 h3
        simp only [bne_eq_false_iff_eq] at h3
        refine Evx.int (wrap_succ (by omega)) ?_
        (conv => arg 1; ext i; whnf)
        refine (ih (a + 1) _ (by omega) (fun _ => by kernel_rfl)).to ?_
        rw [drop_cons hx, drop_cons hy]
        simp [h3]
    · (conv => arg 1; ext i; whnf)
      have h2 := hold_false.1 h2
      simp only [ints_len, decide_eq_false_iff_not] at h2
      refine Evx.pure ?_
      rw [List.drop_eq_nil_of_le (by omega), List.drop_eq_nil_of_le (by omega)]
      rfl

theorem same_proj (t u : Tree) : t.same u = (decide (t.fn = u.fn) && decide (t.vs = u.vs) && sames t.ks u.ks) := by
  cases t; cases u; rfl
theorem sames_len : ∀ {ts us : List Tree}, ts.length ≠ us.length → sames ts us = false
  | [], [], h => absurd rfl h
  | [], _ :: _, _ => by simp [sames]
  | _ :: _, [], _ => by simp [sames]
  | t :: ts, u :: us, h => by simp only [sames]; rw [sames_len (by simpa using h), Bool.and_false]

theorem equalF (xs ys : List Tree) (h : xs.length < 2 ^ 40) (E : ∀ (i : Nat) x y, xs[i]? = some x → ys[i]? = some y → Ev pr 29 [x.d, y.d] (.ret [.d (.bool (x.same y))])) :
    Ev pr 43 [.sl 3 (trees xs), .sl 3 (trees ys), .fn (.func 29) []] (.ret [.d (.bool (sames xs ys))]) := by
  apply Ev.enter; intro c; (conv => arg 1; ext i; whnf)
  refine Evx.bool (fun h1 => ?_) (fun h1 => ?_)
  · (conv => arg 1; ext i; whnf)
    refine Evx.pure ?_
    have h1 := hold_true.1 h1
    simp only [trees_len, bne_iff_ne, ne_eq] at h1
    rw [sames_len (by omega)]
  · (conv => arg 1; ext i; whnf)
    have h1 := hold_false.1 h1
    simp only [trees_len, bne_eq_false_iff_eq] at h1
    have hl : xs.length = ys.length := by omega
    refine (Evx.loop hint43 4 (α := Nat) (fun a => [some (.d (.sl 3 (trees ys))), some (.d (.fn (.func 29) [])), some (.d (.sl 3 (trees xs))), some (.d (.int .i64 (trees xs).length)), some (.d (.int .i64 a))]) (fun a => []) 1 [] (fun a => xs.length - a) (fun a => .ret [.d (.bool (sames (xs.drop a) (ys.drop a)))]) ?_ 0 (fun _ => rfl) (fun _ => rfl) (fun _ => rfl) (fun _ => by kernel_rfl)).to (by simp)
    intro a bx L ih; (conv => arg 1; ext i; whnf)
    refine Evx.bool (fun h2 => ?_) (fun h2 => ?_)
    · (conv => arg 1; ext i; whnf)
      have h2 := hold_true.1 h2
      simp only [trees_len, decide_eq_true_eq] at h2
      obtain ⟨x, hx⟩ := get_some (l := xs) (i := a) (by omega)
      obtain ⟨y, hy⟩ := get_some (l := ys) (i := a) (by omega)
      refine Evx.idx rfl (trees_get hx) ?_
      (conv => arg 1; ext i; whnf)
      refine Evx.idx rfl (trees_get hy) ?_
      (conv => arg 1; ext i; whnf)
      refine Evx.call (E a x y hx hy) ?_
      (conv => arg 1; ext i; whnf)
      refine Evx.bool (fun h3 => ?_) (fun h3 => ?_)
      · (conv => arg 1; ext i; whnf)
        refine Evx.pure ?_
        rw [drop_cons hx, drop_cons hy]
        simp only [Bool.not_eq_true'] at h3
        simp [sames, h3]
      · (conv => arg 1; ext i; whnf)
        simp only [Bool.not_eq_false'] at h3
        refine Evx.int (wrap_succ (by omega)) ?_
        (conv => arg 1; ext i; whnf)
        refine (ih (a + 1) _ (by omega) (fun _ => by kernel_rfl)).to ?_
        rw [drop_cons hx, drop_cons hy]
        simp [sames, h3]
    · (conv => arg 1; ext i; whnf)
      have h2 := hold_false.1 h2
      simp only [trees_len, decide_eq_false_iff_not] at h2
      refine Evx.pure ?_
      rw [List.drop_eq_nil_of_le (by omega), List.drop_eq_nil_of_le (by omega)]
      rfl

theorem same_ev (t : Tree) : ∀ u, t.ok → Ev pr 29 [t.d, u.d] (.ret [.d (.bool (t.same u))]) := by
  induction t using Tree.rec' with
  | _ t ih =>
    intro u ht
    have hv := ht.vs
    have hk := ht.ks
    apply Ev.enter; intro c; (conv => arg 1; ext i; whnf)
    refine Evx.bool (fun h1 => ?_) (fun h1 => ?_)
    · (conv => arg 1; ext i; whnf)
      refine Evx.call (equal_ints t.vs u.vs (by omega)) ?_
      (conv => arg 1; ext i; whnf)
      refine Evx.bool (fun h2 => ?_) (fun h2 => ?_)
      · (conv => arg 1; ext i; whnf)
        refine Evx.call (equalF t.ks u.ks (by omega) fun i x y hx hy => ih i x hx y (ht.kid hx)) ?_
        (conv => arg 1; ext i; whnf)
        refine Evx.pure ?_
        rw [same_proj, h2, decide_eq_true (seq_iff.1 h1)]
        simp
      · (conv => arg 1; ext i; whnf)
        refine Evx.pure ?_
        rw [same_proj, h2]
        simp
    · (conv => arg 1; ext i; whnf)
      refine Evx.pure ?_
      rw [same_proj, decide_eq_false (seq_ne.1 h1)]
      simp


theorem rSize_ev (t : Tree) : t.ok → Ev pr 27 [t.d] (.ret [.d (.int .i64 t.size)]) := by
  induction t using Tree.rec' with
  | _ t ih =>
    intro ht
    have hk := ht.ks
    have hs := ok_sizes ht
    apply Ev.enter; intro c; (conv => arg 1; ext i; whnf)
    refine (Evx.loop hint27 3 (α := Nat) (fun a => [some (.ptr 1 1 0), some (.d (.int .i64 ((1 + sizes (t.ks.take a) : Nat) : Int))), some (.d (.int .i64 a))]) (fun a => [some (treeBox t)]) 1 [] (fun a => t.ks.length - a) (fun a => .ret [.d (.int .i64 t.size)]) ?_ 0 (fun _ => rfl) (fun _ => rfl) (fun _ => rfl) (fun _ => by kernel_rfl)).to rfl
    intro a bx L ih'; (conv => arg 1; ext i; whnf)
    refine Evx.bool (fun h2 => ?_) (fun h2 => ?_)
    · have h2 := hold_true.1 h2
      simp only [trees_len, decide_eq_true_eq] at h2
      obtain ⟨x, hx⟩ := get_some (l := t.ks) (i := a) (by omega)
      (conv => arg 1; ext i; whnf)
      refine Evx.idx rfl (trees_get hx) ?_
      (conv => arg 1; ext i; whnf)
      refine Evx.call (ih a x hx (ht.kid hx)) ?_
      (conv => arg 1; ext i; whnf)
      have h3 := sizes_take hx
      have h4 := sizes_take_le t.ks (a + 1)
      refine Evx.int (n' := ((1 + sizes (t.ks.take (a + 1)) : Nat) : Int)) (by rw [wrap_small] <;> omega) ?_
      (conv => arg 1; ext i; whnf)
      refine Evx.int (wrap_succ (by omega)) ?_
      (conv => arg 1; ext i; whnf)
      exact ih' (a + 1) _ (by omega) (fun _ => by kernel_rfl)
    · have h2 := hold_false.1 h2
      simp only [trees_len, decide_eq_false_iff_not] at h2
      (conv => arg 1; ext i; whnf)
      refine Evx.pure ?_
      rw [List.take_of_length_le (by omega), ← t.size_eq]


theorem rSame_ev (t : Tree) : ∀ u, t.ok → Ev pr 21 [t.d, u.d] (.ret [.d (.bool (t.same u))]) := by
  induction t using Tree.rec' with
  | _ t ih =>
    intro u ht
    have hv := ht.vs
    have hk := ht.ks
    apply Ev.enter; intro c; (conv => arg 1; ext i; whnf)
    refine Evx.bool (fun h1 => ?_) (fun h1 => ?_)
    · (conv => arg 1; ext i; whnf)
      refine Evx.pure ?_
      simp only [Bool.not_eq_true'] at h1
      rw [same_proj, decide_eq_false (seq_ne.1 h1)]; simp
    · (conv => arg 1; ext i; whnf)
      simp only [Bool.not_eq_false'] at h1
      have e1 := seq_iff.1 h1
      refine Evx.bool (fun h2 => ?_) (fun h2 => ?_)
      · (conv => arg 1; ext i; whnf)
        refine Evx.pure ?_
        have h2 := hold_true.1 h2
        simp only [ints_len, bne_iff_ne, ne_eq] at h2
        rw [same_proj, decide_eq_false (p := t.vs = u.vs) (fun e => h2 (by rw [e]))]; simp
      · (conv => arg 1; ext i; whnf)
        have h2 := hold_false.1 h2
        simp only [ints_len, bne_eq_false_iff_eq] at h2
        refine Evx.bool (fun h3 => ?_) (fun h3 => ?_)
        · (conv => arg 1; ext i; whnf)
          refine Evx.pure ?_
          have h3 := hold_true.1 h3
          simp only [trees_len, bne_iff_ne, ne_eq] at h3
          rw [same_proj, sames_len (by omega)]; simp
        · (conv => arg 1; ext i; whnf)
          have h3 := hold_false.1 h3
          simp only [trees_len, bne_eq_false_iff_eq] at h3
          have e3 : t.ks.length = u.ks.length := by omega
          refine (Evx.loop hint21 4 (α := Nat) (fun a => [some (.ptr 1 2 0), some (.ptr 1 3 0), some (.d (.int .i64 a))]) (fun a => [some (treeBox t), some (treeBox u)]) 1 [] (fun a => t.vs.length - a) (fun a => .ret [.d (.bool (decide (t.vs.drop a = u.vs.drop a) && sames t.ks u.ks))]) ?_ 0 (fun _ => rfl) (fun _ => rfl) (fun _ => rfl) (fun _ => by kernel_rfl)).to (by rw [same_proj, decide_eq_true e1]; simp)
          intro a bx L ih'; (conv => arg 1; ext i; whnf)
          refine Evx.bool (fun h4 => ?_) (fun h4 => ?_)
          · have h4 := hold_true.1 h4
            simp only [ints_len, decide_eq_true_eq] at h4
            obtain ⟨x, hx⟩ := get_some (l := t.vs) (i := a) (by omega)
            obtain ⟨y, hy⟩ := get_some (l := u.vs) (i := a) (by omega)
            (conv => arg 1; ext i; whnf)
            refine Evx.idx rfl (ints_get hx) ?_
            (conv => arg 1; ext i; whnf)
            refine Evx.idx rfl (ints_get hy) ?_
            (conv => arg 1; ext i; whnf)
            refine Evx.bool (fun h5 => ?_) (fun h5 => ?_)
            · (conv => arg 1; ext i; whnf)
              have h5 := hold_true.1 h5
              simp only [bne_iff_ne, ne_eq] at h5
              refine Evx.pure ?_
              rw [drop_cons hx, drop_cons hy]; simp [h5]
            · (conv => arg 1; ext i; whnf)
              have h5 := hold_false.1 h5
              simp only [bne_eq_false_iff_eq] at h5
              refine Evx.int (wrap_succ (by omega)) ?_
              (conv => arg 1; ext i; whnf)
              refine (ih' (a + 1) _ (by omega) (fun _ => by kernel_rfl)).to ?_
              rw [drop_cons hx, drop_cons hy]; simp [h5]
          · have h4 := hold_false.1 h4
            simp only [ints_len, decide_eq_false_iff_not] at h4
            (conv => arg 1; ext i; whnf)
            rw [List.drop_eq_nil_of_le (by omega), List.drop_eq_nil_of_le (by omega)]
            refine (Evx.loop hint21 9 (α := Nat) (fun a => [some (.ptr 1 2 0), some (.ptr 1 3 0), some (.d (.int .i64 a))]) (fun a => [some (treeBox t), some (treeBox u)]) 1 [] (fun a => t.ks.length - a) (fun a => .ret [.d (.bool (sames (t.ks.drop a) (u.ks.drop a)))]) ?_ 0 (fun _ => rfl) (fun _ => rfl) (fun _ => rfl) (fun _ => by kernel_rfl)).to (by simp)
            clear ih' L bx
            intro a bx L ih'; (conv => arg 1; ext i; whnf)
            refine Evx.bool (fun h4 => ?_) (fun h4 => ?_)
            · have h4 := hold_true.1 h4
              simp only [trees_len, decide_eq_true_eq] at h4
              obtain ⟨x, hx⟩ := get_some (l := t.ks) (i := a) (by omega)
              obtain ⟨y, hy⟩ := get_some (l := u.ks) (i := a) (by omega)
              (conv => arg 1; ext i; whnf)
              refine Evx.idx rfl (trees_get hx) ?_
              (conv => arg 1; ext i; whnf)
              refine Evx.idx rfl (trees_get hy) ?_
              (conv => arg 1; ext i; whnf)
              refine Evx.call (ih a x hx y (ht.kid hx)) ?_
              (conv => arg 1; ext i; whnf)
              refine Evx.bool (fun h5 => ?_) (fun h5 => ?_)
              · (conv => arg 1; ext i; whnf)
                simp only [Bool.not_eq_true'] at h5
                refine Evx.pure ?_
                rw [drop_cons hx, drop_cons hy]; simp [sames, h5]
              · (conv => arg 1; ext i; whnf)
                simp only [Bool.not_eq_false'] at h5
                refine Evx.int (wrap_succ (by omega)) ?_
                (conv => arg 1; ext i; whnf)
                refine (ih' (a + 1) _ (by omega) (fun _ => by kernel_rfl)).to ?_
                rw [drop_cons hx, drop_cons hy]; simp [sames, h5]
            · have h4 := hold_false.1 h4
              simp only [trees_len, decide_eq_false_iff_not] at h4
              (conv => arg 1; ext i; whnf)
              refine Evx.pure ?_
              rw [List.drop_eq_nil_of_le (by omega), List.drop_eq_nil_of_le (by omega)]; simp [sames]

theorem sameAll_ev (xs ys : List Tree) (h : xs.length < 2 ^ 40) (ho : ∀ (i : Nat) t, xs[i]? = some t → t.ok) : Ev pr 13 [.sl 3 (trees xs), .sl 3 (trees ys)] (.ret [.d (.bool (sames xs ys))]) := by
  apply Ev.enter; intro c; (conv => arg 1; ext i; whnf)
  refine Evx.bool (fun h1 => ?_) (fun h1 => ?_)
  · (conv => arg 1; ext i; whnf)
    refine Evx.pure ?_
    have h1 := hold_true.1 h1
    simp only [trees_len, bne_iff_ne, ne_eq] at h1
    rw [sames_len (by omega)]
  · (conv => arg 1; ext i; whnf)
    have h1 := hold_false.1 h1
    simp only [trees_len, bne_eq_false_iff_eq] at h1
    have hl : xs.length = ys.length := by omega
    refine (Evx.loop hint13 4 (α := Nat) (fun a => [some (.d (.sl 3 (trees xs))), some (.d (.sl 3 (trees ys))), some (.d (.int .i64 a))]) (fun a => []) 1 [] (fun a => xs.length - a) (fun a => .ret [.d (.bool (sames (xs.drop a) (ys.drop a)))]) ?_ 0 (fun _ => rfl) (fun _ => rfl) (fun _ => rfl) (fun _ => by kernel_rfl)).to (by simp)
    intro a bx L ih; (conv => arg 1; ext i; whnf)
    refine Evx.bool (fun h2 => ?_) (fun h2 => ?_)
    · have h2 := hold_true.1 h2
      simp only [trees_len, decide_eq_true_eq] at h2
      obtain ⟨x, hx⟩ := get_some (l := xs) (i := a) (by omega)
      obtain ⟨y, hy⟩ := get_some (l := ys) (i := a) (by omega)
      (conv => arg 1; ext i; whnf)
      refine Evx.idx rfl (trees_get hx) ?_
      (conv => arg 1; ext i; whnf)
      refine Evx.idx rfl (trees_get hy) ?_
      (conv => arg 1; ext i; whnf)
      refine Evx.call (rSame_ev x y (ho a x hx)) ?_
      (conv => arg 1; ext i; whnf)
      refine Evx.bool (fun h3 => ?_) (fun h3 => ?_)
      · (conv => arg 1; ext i; whnf)
        refine Evx.pure ?_
        rw [drop_cons hx, drop_cons hy]
        simp only [Bool.not_eq_true'] at h3
        simp [sames, h3]
      · (conv => arg 1; ext i; whnf)
        simp only [Bool.not_eq_false'] at h3
        refine Evx.int (wrap_succ (by omega)) ?_
        (conv => arg 1; ext i; whnf)
        refine (ih (a + 1) _ (by omega) (fun _ => by kernel_rfl)).to ?_
        rw [drop_cons hx, drop_cons hy]
        simp [sames, h3]
    · (conv => arg 1; ext i; whnf)
      have h2 := hold_false.1 h2
      simp only [trees_len, decide_eq_false_iff_not] at h2
      refine Evx.pure ?_
      rw [List.drop_eq_nil_of_le (by omega), List.drop_eq_nil_of_le (by omega)]
      rfl

theorem sameAll_nil : Ev pr 13 [.nils, .nils] (.ret [.d (.bool true)]) := by
  apply Ev.enter; intro c; (conv => arg 1; ext i; whnf)
  refine Evx.bool (fun h1 => ?_) (fun h1 => ?_)
  · exact absurd (hold_true.1 h1) (by simp)
  · (conv => arg 1; ext i; whnf)
    refine (Evx.loop hint13 4 (α := Unit) (fun a => [some (.d .nils), some (.d .nils), some (.d (.int .i64 0))]) (fun a => []) 1 [] (fun a => 0) (fun a => .ret [.d (.bool true)]) ?_ () (fun _ => rfl) (fun _ => rfl) (fun _ => rfl) (fun _ => by kernel_rfl)).to rfl
    intro a bx L ih; (conv => arg 1; ext i; whnf)
    refine Evx.bool (fun h2 => ?_) (fun h2 => ?_)
    · exact absurd (hold_true.1 h2) (by simp)
    · (conv => arg 1; ext i; whnf)
      exact Evx.pure rfl

end Go.Proofs.YtfiefcfjedmhaaaDoor
