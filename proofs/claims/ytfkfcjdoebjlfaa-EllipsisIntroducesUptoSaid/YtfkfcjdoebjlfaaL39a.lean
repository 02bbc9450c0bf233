/- The laws of layer 39, walked: first part. -/
import Derived.Test.YtfkfcjdoebjlfaaW39
namespace Go.Proofs.Ytfkfcjdoebjlfaa
open Go Go.Abs Go.Abs.Asks
set_option linter.unusedVariables false
set_option linter.unusedSimpArgs false
set_option linter.unusedSectionVars false
variable [Asks]

def fewB (ts : List Tree) (n : Int) : Bool := ts.all (fun t => decide (t.size ≤ 100)) && decide ((ts.length : Int) ≤ n)

theorem few_ev (ts : List Tree) (n : Int) (hl : ts.length < 2 ^ 40) (ho : ∀ (i : Nat) t, ts[i]? = some t → t.ok) : Ev pr 11 [.sl 3 (trees ts), .int .i64 n] (.ret [.d (.bool (fewB ts n))]) := by
  apply Ev.enter; intro c; (conv => arg 1; ext i; whnf)
  refine (Evx.loop hint11 2 (α := Nat) (fun a => [some (.d (.sl 3 (trees ts))), some (.d (.int .i64 n)), some (.d (.int .i64 a))]) (fun a => []) 1 [] (fun a => ts.length - a) (fun a => .ret [.d (.bool ((ts.drop a).all (fun t => decide (t.size ≤ 100)) && decide ((ts.length : Int) ≤ n)))]) ?_ 0 (fun _ => rfl) (fun _ => rfl) (fun _ => rfl) (fun _ => by kernel_rfl)).to (by simp [fewB])
  intro a bx L ih; (conv => arg 1; ext i; whnf)
  refine Evx.bool (fun h2 => ?_) (fun h2 => ?_)
  · have h2 := hold_true.1 h2
    simp only [trees_len, decide_eq_true_eq] at h2
    obtain ⟨x, hx⟩ := get_some (l := ts) (i := a) (by omega)
    rw [drop_cons hx]
    (conv => arg 1; ext i; whnf)
    refine Evx.idx rfl (trees_get hx) ?_
    (conv => arg 1; ext i; whnf)
    refine Evx.call (rSize_ev x (ho a x hx)) ?_
    (conv => arg 1; ext i; whnf)
    refine Evx.bool (fun h3 => ?_) (fun h3 => ?_)
    · have h3 := hold_true.1 h3
      simp only [gt_iff_lt, decide_eq_true_eq] at h3
      (conv => arg 1; ext i; whnf)
      refine Evx.pure ?_
      rw [List.all_cons, decide_eq_false (by omega)]; rfl
    · have h3 := hold_false.1 h3
      simp only [gt_iff_lt, decide_eq_false_iff_not] at h3
      (conv => arg 1; ext i; whnf)
      refine Evx.int (wrap_succ (by omega)) ?_
      (conv => arg 1; ext i; whnf)
      refine (ih (a + 1) _ (by omega) (fun _ => by kernel_rfl)).to ?_
      rw [List.all_cons, decide_eq_true (p := x.size ≤ 100) (by omega), Bool.true_and]
  · have h2 := hold_false.1 h2
    simp only [trees_len, decide_eq_false_iff_not] at h2
    (conv => arg 1; ext i; whnf)
    refine Evx.pure ?_
    rw [List.drop_eq_nil_of_le (by omega), hold_eq, trees_len]; rfl

theorem awake39_ev : Ev pr 12 [] (.ret [.d (.bool true)]) := Ev.of_run 30 fun n k => by kernel_rfl

theorem removes_ev (ts : List Tree) (hb : bulks ts < 2 ^ 21) : Ev pr 4 [.sl 3 (trees ts)] (.ret [.d (.bool true)]) := by
  have hl := bulks_len ts
  have ho : ∀ (i : Nat) t, ts[i]? = some t → t.ok := by
    intro i t h; have := bulk_get h; unfold Tree.ok; omega
  apply Ev.enter; intro c; (conv => arg 1; ext i; whnf)
  refine Evx.call (few_ev ts 10 (by omega) ho) ?_
  (conv => arg 1; ext i; whnf)
  refine Evx.bool (fun h1 => ?_) (fun h1 => ?_)
  · (conv => arg 1; ext i; whnf)
    refine Evx.call awake39_ev ?_
    (conv => arg 1; ext i; whnf)
    exact Evx.pure rfl
  (conv => arg 1; ext i; whnf)
  refine Evx.call (remove_ev ts (by omega) ho) ?_
  obtain ⟨r, hr⟩ : ∃ r, remR ts false [] = r := ⟨_, rfl⟩
  rw [hr]
  obtain ⟨_ | e, out⟩ := r
  · simp only [remOut]
    (conv => arg 1; ext i; whnf)
    refine (Evx.loop hint4 6 (α := { p : Nat × List Tree // p.2.length ≤ p.1 * 256 ∧ (∀ u ∈ p.2, u.ok) ∧ ∃ o w, RemAt ts p.1 p.2 o w }) (fun a => [some (.d (.sl 3 (trees ts))), some (.d (.sl 3 (trees out))), some (.d (.int .i64 0)), some (.own (.tmp 1 5 0) 3 (trees a.1.2)), some (.d (.int .i64 a.1.1))]) (fun a => []) 1 [] (fun a => ts.length - a.1.1) (fun a => .ret [.d (.bool true)]) ?_ ⟨(0, []), by simp, by simp, _, _, RemAt.start ts⟩ (fun _ => rfl) (fun _ => rfl) (fun _ => rfl) (fun _ => by kernel_rfl)).to rfl
    rintro ⟨⟨a, want⟩, hw1, hw2, o, w, hat⟩ bx L ih
    dsimp only at hw1 hw2 hat
    (conv => arg 1; ext i; whnf)
    refine Evx.bool (fun h2 => ?_) (fun h2 => ?_)
    · have h2 := hold_true.1 h2
      simp only [trees_len, decide_eq_true_eq] at h2
      obtain ⟨x, hx⟩ := get_some (l := ts) (i := a) (by omega)
      (conv => arg 1; ext i; whnf)
      refine Evx.idx rfl (trees_get hx) ?_
      (conv => arg 1; ext i; whnf)
      refine Evx.call (expandE_ev x (ho a x hx)) ?_
      obtain ⟨r1, hr1⟩ : ∃ r, remR [x] false [] = r := ⟨_, rfl⟩
      rw [hr1]
      obtain ⟨_ | e1, l⟩ := r1
      · simp only [remOut]
        (conv => arg 1; ext i; whnf)
        refine Evx.bool (fun h3 => ?_) (fun h3 => ?_)
        · exact absurd (hold_true.1 h3) (by decide)
        obtain ⟨hll, hlb⟩ := remR_len hr1
        obtain ⟨o', w', hat'⟩ := hat.step hx hr1
        (conv => arg 1; ext i; whnf)
        refine Evx.appd rfl (m := ((trees want).length + (trees l).length) * 65) (by rw [trees_len, trees_len]; omega) ?_
        (conv => arg 1; ext i; whnf)
        refine Evx.int (wrap_succ (by omega)) ?_
        (conv => arg 1; ext i; whnf)
        refine ih ⟨(a + 1, want ++ l), by dsimp only; rw [List.length_append]; omega, ?_, o', w', hat'⟩ _ (by dsimp only; omega) ?_
        · intro u hu
          rcases List.mem_append.1 hu with hu | hu
          · exact hw2 u hu
          · have := hlb u hu; have := ho a x hx; unfold Tree.ok at this ⊢; omega
        · intro i
          dsimp only
          rw [trees_app]
          kernel_rfl
      · have := hat.err hx hr1
        rw [hr] at this
        cases this
    · have h2 := hold_false.1 h2
      simp only [trees_len, decide_eq_false_iff_not] at h2
      have hd := hat.done (by omega)
      rw [hr] at hd
      (conv => arg 1; ext i; whnf)
      refine Evx.bool (fun h3 => ?_) (fun h3 => ?_)
      · have h3 := hold_true.1 h3
        simp only [trees_len, gt_iff_lt, decide_eq_true_eq] at h3
        rw [if_pos (by omega)] at hd
        cases hd
      have h3 := hold_false.1 h3
      simp only [trees_len, gt_iff_lt, decide_eq_false_iff_not] at h3
      rw [if_neg (by omega)] at hd
      cases hd
      (conv => arg 1; ext i; whnf)
      refine Evx.call awake39_ev ?_
      (conv => arg 1; ext i; whnf)
      refine Evx.bool (fun h4 => ?_) (fun h4 => ?_)
      · (conv => arg 1; ext i; whnf)
        refine Evx.call (sameAll_ev out out (by omega) (fun i t h => hw2 t (List.mem_of_getElem? h))) ?_
        (conv => arg 1; ext i; whnf)
        refine Evx.pure ?_
        rw [(sames_iff out out).2 rfl]
      · exact absurd (hold_false.1 h4) (by decide)
  · simp only [remOut]
    (conv => arg 1; ext i; whnf)
    refine (Evx.loop hint4 6 (α := { p : Nat × List Tree // p.2.length ≤ p.1 * 256 ∧ (∀ u ∈ p.2, u.ok) ∧ ∃ o w, RemAt ts p.1 p.2 o w }) (fun a => [some (.d (.sl 3 (trees ts))), some (.d .nils), some (.d (.int .i64 e)), some (.own (.tmp 1 5 0) 3 (trees a.1.2)), some (.d (.int .i64 a.1.1))]) (fun a => []) 1 [] (fun a => ts.length - a.1.1) (fun a => .ret [.d (.bool true)]) ?_ ⟨(0, []), by simp, by simp, _, _, RemAt.start ts⟩ (fun _ => rfl) (fun _ => rfl) (fun _ => rfl) (fun _ => by kernel_rfl)).to rfl
    rintro ⟨⟨a, want⟩, hw1, hw2, o, w, hat⟩ bx L ih
    dsimp only at hw1 hw2 hat
    (conv => arg 1; ext i; whnf)
    refine Evx.bool (fun h2 => ?_) (fun h2 => ?_)
    · have h2 := hold_true.1 h2
      simp only [trees_len, decide_eq_true_eq] at h2
      obtain ⟨x, hx⟩ := get_some (l := ts) (i := a) (by omega)
      (conv => arg 1; ext i; whnf)
      refine Evx.idx rfl (trees_get hx) ?_
      (conv => arg 1; ext i; whnf)
      refine Evx.call (expandE_ev x (ho a x hx)) ?_
      obtain ⟨r1, hr1⟩ : ∃ r, remR [x] false [] = r := ⟨_, rfl⟩
      rw [hr1]
      obtain ⟨_ | e1, l⟩ := r1
      · simp only [remOut]
        (conv => arg 1; ext i; whnf)
        refine Evx.bool (fun h3 => ?_) (fun h3 => ?_)
        · exact absurd (hold_true.1 h3) (by decide)
        obtain ⟨hll, hlb⟩ := remR_len hr1
        obtain ⟨o', w', hat'⟩ := hat.step hx hr1
        (conv => arg 1; ext i; whnf)
        refine Evx.appd rfl (m := ((trees want).length + (trees l).length) * 65) (by rw [trees_len, trees_len]; omega) ?_
        (conv => arg 1; ext i; whnf)
        refine Evx.int (wrap_succ (by omega)) ?_
        (conv => arg 1; ext i; whnf)
        refine ih ⟨(a + 1, want ++ l), by dsimp only; rw [List.length_append]; omega, ?_, o', w', hat'⟩ _ (by dsimp only; omega) ?_
        · intro u hu
          rcases List.mem_append.1 hu with hu | hu
          · exact hw2 u hu
          · have := hlb u hu; have := ho a x hx; unfold Tree.ok at this ⊢; omega
        · intro i
          dsimp only
          rw [trees_app]
          kernel_rfl
      · have := hat.err hx hr1
        rw [hr] at this
        cases this
        simp only [remOut]
        have he : e ≠ 0 := by
          rw [remR_one] at hr1
          split at hr1
          · cases hr1; decide
          · split at hr1
            · cases hr1; decide
            · cases hr1
        (conv => arg 1; ext i; whnf)
        refine Evx.bool (fun h3 => ?_) (fun h3 => ?_)
        · (conv => arg 1; ext i; whnf)
          refine Evx.call awake39_ev ?_
          (conv => arg 1; ext i; whnf)
          refine Evx.bool (fun h4 => ?_) (fun h4 => ?_)
          · (conv => arg 1; ext i; whnf)
            refine Evx.pure ?_
            rw [hold_eq]; rfl
          · exact absurd (hold_false.1 h4) (by simp)
        · exact absurd (hold_false.1 h3) (by simp [he])
    · have h2 := hold_false.1 h2
      simp only [trees_len, decide_eq_false_iff_not] at h2
      have hd := hat.done (by omega)
      rw [hr] at hd
      (conv => arg 1; ext i; whnf)
      refine Evx.bool (fun h3 => ?_) (fun h3 => ?_)
      · have h3 := hold_true.1 h3
        simp only [trees_len, gt_iff_lt, decide_eq_true_eq] at h3
        rw [if_pos (by omega)] at hd
        cases hd
        (conv => arg 1; ext i; whnf)
        refine Evx.call awake39_ev ?_
        (conv => arg 1; ext i; whnf)
        refine Evx.bool (fun h4 => ?_) (fun h4 => ?_)
        · (conv => arg 1; ext i; whnf)
          refine Evx.pure ?_
          rw [hold_eq]; rfl
        · exact absurd (hold_false.1 h4) (by decide)
      have h3 := hold_false.1 h3
      simp only [trees_len, gt_iff_lt, decide_eq_false_iff_not] at h3
      rw [if_neg (by omega)] at hd
      cases hd
end Go.Proofs.Ytfkfcjdoebjlfaa
