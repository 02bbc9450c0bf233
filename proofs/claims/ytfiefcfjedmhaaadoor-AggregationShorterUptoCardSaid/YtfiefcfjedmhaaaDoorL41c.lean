/- The law Shorter: walked. -/
import Derived.Test.YtfiefcfjedmhaaaDoorL41b
import Derived.Test.YtfiefcfjedmhaaaDoorS41c
namespace Go.Proofs.YtfiefcfjedmhaaaDoor
open Go Go.Abs Go.Abs.Asks
set_option linter.unusedVariables false
set_option linter.unusedSimpArgs false
set_option linter.unusedSectionVars false
variable [Asks]

theorem few_all {ts : List Tree} (h : few41 ts = true) : ts.length ≤ 8 ∧ ∀ t ∈ ts, t.size ≤ 40 := by
  simp only [few41, Bool.and_eq_true, List.all_eq_true, decide_eq_true_eq] at h
  exact ⟨by omega, h.1⟩
theorem cnt_le {t : Tree} (h : t.size ≤ 80) : cnt t ≤ 6400 := by
  have l1 := (split_len t.size t (Nat.le_refl _)).1
  have : t.size * t.size ≤ 80 * 80 := Nat.mul_le_mul h h
  unfold cnt splitT; omega
theorem cnts_le : ∀ {ts : List Tree}, (∀ t ∈ ts, t.size ≤ 80) → cnts ts ≤ 6400 * ts.length
  | [], _ => by simp [cnts]
  | t :: ts, h => by
    have h1 := cnt_le (h t (by simp))
    have h2 := cnts_le (ts := ts) (fun u hu => h u (by simp [hu]))
    simp only [cnts, List.length_cons]; omega
theorem int_add {a b : Nat} (h : a + b < 2 ^ 62) : IntKind.i64.wrap ((a : Int) + (b : Int)) = ((a + b : Nat) : Int) := by
  rw [wrap_small] <;> omega

theorem shorterLaw_ev (ts : List Tree) (hb : bulks ts < 2 ^ 21) : Ev pr 5 [.sl 3 (trees ts)] (.ret [.d (.bool true)]) := by
  have hl := bulks_len ts
  have ef := few41_ev ts (by omega) (by intro i t h; have := bulk_get h; unfold Tree.ok; omega)
  have em := moves_ev ts hb
  apply Ev.enter; intro c; (conv => arg 1; ext i; whnf)
  refine Evx.call awake41_ev ?_
  (conv => arg 1; ext i; whnf)
  refine Evx.call ef ?_
  (conv => arg 1; ext i; whnf)
  refine Evx.bool (fun h1 => ?_) (fun h1 => ?_)
  · (conv => arg 1; ext i; whnf)
    refine Evx.call awake41_ev ?_
    (conv => arg 1; ext i; whnf)
    exact Evx.pure rfl
  (conv => arg 1; ext i; whnf)
  obtain ⟨f1, f2⟩ := few_all (by simpa using h1)
  have hmem : ∀ (a : Nat) l, (movesT ts (ts.length - 1))[a]? = some l → (l.length + 1 = ts.length ∧ ∀ (i : Nat) t, l[i]? = some t → t.bulk < 2 ^ 21) ∧ cnts l ≤ cnts ts ∧ ∀ t ∈ l, t.size ≤ 80 := by
    intro a l h
    have h := List.mem_of_getElem? h
    obtain ⟨i, _, hm⟩ := movesT_mem h
    obtain ⟨b1, b2⟩ := moveAt_bulk hm
    obtain ⟨c1, c2⟩ := moveAt_cnt hm
    refine ⟨⟨b2, (moves_mem_ok hb h).2⟩, c1, fun t ht => ?_⟩
    rcases c2 t ht with h | ⟨x, y, hx, hy, h⟩
    · have := f2 t h; omega
    · have := f2 x hx; have := f2 y hy; omega
  have hcs : cnts ts ≤ 6400 * ts.length := cnts_le (fun t ht => by have := f2 t ht; omega)
  have hct : ∀ j, cnts (ts.take j) ≤ 6400 * 8 := fun j => by
    have := cnts_le (ts := ts.take j) (fun t ht => by have := f2 t (List.mem_of_mem_take ht); omega)
    have : (ts.take j).length ≤ 8 := by rw [List.length_take]; omega
    omega
  refine Evx.loop hint5 5 (α := { j : Nat // j ≤ ts.length }) (fun j => [some (.d (.sl 3 (trees ts))), some (.d (.int .i64 (cnts (ts.take j.1)))), some (.d (.int .i64 j.1))]) (fun _ => []) 1 [] (fun j => ts.length - j.1) (fun j => _) ?_ ⟨0, Nat.zero_le _⟩ (fun _ => rfl) (fun _ => rfl) (fun _ => rfl) (fun _ => by kernel_rfl)
  rintro ⟨j, hj⟩ bx L ih
  (conv => arg 1; ext i; whnf)
  refine Evx.bool (fun h3 => ?_) (fun h3 => ?_)
  · have h3 := hold_true.1 h3
    simp only [trees_len, decide_eq_true_eq] at h3
    obtain ⟨t, ht⟩ := get_some (l := ts) (i := j) (by omega)
    have hts := f2 t (List.mem_of_getElem? ht)
    have htb := bulk_get ht
    (conv => arg 1; ext i; whnf)
    refine Evx.idx (m := j) rfl (trees_get ht) ?_
    (conv => arg 1; ext i; whnf)
    refine Evx.call (merged_ev t (by omega) (by omega)) ?_
    (conv => arg 1; ext i; whnf)
    refine Evx.int (int_add (a := cnts (ts.take j)) (b := cnt t) (by have := hct j; have := cnt_le (t := t) (by omega); omega)) ?_
    (conv => arg 1; ext i; whnf)
    refine Evx.int (wrap_succ (n := j) (by omega)) ?_
    (conv => arg 1; ext i; whnf)
    refine ih ⟨j + 1, by omega⟩ _ (by dsimp only; omega) ?_
    intro q
    dsimp only
    rw [cnts_take ts j t ht]
    kernel_rfl
  have h3 := hold_false.1 h3
  simp only [trees_len, decide_eq_false_iff_not] at h3
  have hj : j = ts.length := by omega
  subst hj
  (conv => arg 1; ext i; whnf)
  refine Evx.call em ?_
  have hmlen := movesT_len ts (ts.length - 1)
  generalize movesT ts (ts.length - 1) = ls at *
  (conv => arg 1; ext i; whnf)
  refine Evx.loop hint5 9 (α := Nat) (fun a => [some (.d (.sl 3 (trees ts))), some (.d (.int .i64 (cnts (ts.take ts.length)))), some (.d (.sl 1 (lists ls))), some (.d (.int .i64 (lists ls).length)), some (.d (.int .i64 a))]) (fun a => []) 1 [] (fun a => ls.length - a) (fun a => _) ?_ 0 (fun _ => rfl) (fun _ => rfl) (fun _ => rfl) (fun _ => by kernel_rfl)
  intro a bx2 L2 ih2; (conv => arg 1; ext i; whnf)
  refine Evx.bool (fun h4 => ?_) (fun h4 => ?_)
  · have h4 := hold_true.1 h4
    simp only [lists_len, decide_eq_true_eq] at h4
    obtain ⟨l, hl⟩ := get_some (l := ls) (i := a) (by omega)
    obtain ⟨⟨b1, b2⟩, c1, c2⟩ := hmem a l hl
    have hcl : ∀ j, cnts (l.take j) ≤ 6400 * 8 := fun j => by
      have := cnts_le (ts := l.take j) (fun t ht => c2 t (List.mem_of_mem_take ht))
      have : (l.take j).length ≤ 8 := by rw [List.length_take]; omega
      omega
    (conv => arg 1; ext i; whnf)
    refine Evx.idx (m := a) rfl (lists_get hl) ?_
    (conv => arg 1; ext i; whnf)
    refine Evx.loop hint5 13 (α := { j : Nat // j ≤ l.length }) (fun j => [some (.d (.sl 3 (trees ts))), some (.d (.int .i64 (cnts (ts.take ts.length)))), some (.d (.sl 3 (trees l))), some (.d (.int .i64 (cnts (l.take j.1)))), some (.d (.int .i64 j.1)), some (.d (.sl 1 (lists ls))), some (.d (.int .i64 (lists ls).length)), some (.d (.int .i64 a))]) (fun _ => []) 1 [] (fun j => l.length - j.1) (fun j => _) ?_ ⟨0, Nat.zero_le _⟩ (fun _ => rfl) (fun _ => rfl) (fun _ => rfl) (fun _ => by kernel_rfl)
    rintro ⟨j, hj⟩ bx3 L3 ih3
    (conv => arg 1; ext i; whnf)
    refine Evx.bool (fun h5 => ?_) (fun h5 => ?_)
    · have h5 := hold_true.1 h5
      simp only [trees_len, decide_eq_true_eq] at h5
      obtain ⟨t, ht⟩ := get_some (l := l) (i := j) (by omega)
      have hts := c2 t (List.mem_of_getElem? ht)
      have htb := b2 j t ht
      (conv => arg 1; ext i; whnf)
      refine Evx.idx (m := j) rfl (trees_get ht) ?_
      (conv => arg 1; ext i; whnf)
      refine Evx.call (merged_ev t (by omega) (by omega)) ?_
      (conv => arg 1; ext i; whnf)
      refine Evx.int (int_add (a := cnts (l.take j)) (b := cnt t) (by have := hcl j; have := cnt_le (t := t) (by omega); omega)) ?_
      (conv => arg 1; ext i; whnf)
      refine Evx.int (wrap_succ (n := j) (by omega)) ?_
      (conv => arg 1; ext i; whnf)
      refine ih3 ⟨j + 1, by omega⟩ _ (by dsimp only; omega) ?_
      intro q
      dsimp only
      rw [cnts_take l j t ht]
      kernel_rfl
    have h5 := hold_false.1 h5
    simp only [trees_len, decide_eq_false_iff_not] at h5
    have hj : j = l.length := by omega
    subst hj
    (conv => arg 1; ext i; whnf)
    refine Evx.int (n' := ((ts.length - 1 : Nat) : Int)) (by rw [trees_len, wrap_small] <;> omega) ?_
    (conv => arg 1; ext i; whnf)
    refine Evx.bool (fun h6 => ?_) (fun h6 => ?_)
    · have h6 := hold_true.1 h6
      simp only [trees_len, bne_iff_ne, ne_eq] at h6
      exact absurd (by omega) h6
    (conv => arg 1; ext i; whnf)
    refine Evx.bool (fun h7 => ?_) (fun h7 => ?_)
    · have h7 := hold_true.1 h7
      rw [List.take_length, List.take_length] at h7
      simp only [gt_iff_lt, decide_eq_true_eq] at h7
      omega
    (conv => arg 1; ext i; whnf)
    refine Evx.int (wrap_succ (n := a) (by omega)) ?_
    (conv => arg 1; ext i; whnf)
    exact ih2 (a + 1) _ (by omega) (fun _ => by kernel_rfl)
  · (conv => arg 1; ext i; whnf)
    exact Evx.pure rfl
end Go.Proofs.YtfiefcfjedmhaaaDoor
