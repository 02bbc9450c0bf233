/- The laws of layer 39, walked: what is introduced is removed again. -/
import Derived.Test.YtfkfcjdoebjlfaaL39b
import Derived.Test.YtfkfcjdoebjlfaaP39b
namespace Go.Proofs.Ytfkfcjdoebjlfaa
open Go Go.Abs Go.Abs.Asks
set_option linter.unusedVariables false
set_option linter.unusedSimpArgs false
set_option linter.unusedSectionVars false
variable [Asks]

theorem bulks_ok {ts : List Tree} (hb : bulks ts < 2 ^ 21) : ∀ (i : Nat) t, ts[i]? = some t → t.ok := by
  intro i t h; have := bulk_get h; unfold Tree.ok; omega
theorem remR_err {ts : List Tree} : ∀ {o : Bool} {out : List Tree} {e : Int} {l : List Tree}, remR ts o out = (some e, l) → e ≠ 0 := by
  induction ts with
  | nil =>
    intro o out e l h
    simp only [remR] at h
    split at h
    · cases h; decide
    · cases h
  | cons t ts ih =>
    intro o out e l h
    simp only [remR] at h
    split at h
    · cases h; decide
    · split at h
      · cases h; decide
      · split at h
        · exact ih h
        · exact ih h

theorem back_ev (ts : List Tree) (hb : bulks ts < 2 ^ 21) : Ev pr 8 [.sl 3 (trees ts)] (.ret [.d (.bool true)]) := by
  have hlen := bulks_len ts
  have ho := bulks_ok hb
  have hsb := sizes_bulks ts
  have hal := alsos_sizes ts
  have hil := introL_len ts (ts.length - 1)
  apply Ev.enter; intro c; (conv => arg 1; ext i; whnf)
  refine Evx.call (sentences_ev ts 10 (by omega) ho) ?_
  (conv => arg 1; ext i; whnf)
  refine Evx.bool (fun h1 => ?_) (fun h1 => ?_)
  · (conv => arg 1; ext i; whnf)
    refine Evx.call awake39_ev ?_
    (conv => arg 1; ext i; whnf)
    exact Evx.pure rfl
  simp only [Bool.not_eq_false', sentsB, Bool.and_eq_true, List.all_eq_true] at h1
  have hw : ∀ t ∈ ts, t.well fs0 = some sS := fun t ht => ((sentB_iff t).1 (h1.1 t ht)).2
  (conv => arg 1; ext i; whnf)
  refine Evx.call (remove_ev ts (by omega) ho) ?_
  obtain ⟨r, hr⟩ : ∃ r, remR ts false [] = r := ⟨_, rfl⟩
  rw [hr]
  obtain ⟨_ | e, L1⟩ := r
  · simp only [remOut]
    obtain ⟨_, hLe, hLs⟩ := remR_ok _ _ _ _ hr
    have hL1 : ∀ (i : Nat) t, L1[i]? = some t → t.ok := by
      intro i t h
      have := List.mem_of_getElem? h
      rw [hLe] at this
      simp only [List.nil_append, List.mem_flatMap] at this
      obtain ⟨u, hu, htu⟩ := this
      have h1 := exL_bulk _ _ _ htu
      have h2 := bulk_mem hu
      unfold Tree.ok; omega
    have hL1l : L1.length < 2 ^ 40 := by
      have : ∀ us : List Tree, (∀ t ∈ us, (exL t.depth t).length ≤ 256) → (us.flatMap fun t => exL t.depth t).length ≤ us.length * 256 := by
        intro us
        induction us with
        | nil => intro _; simp
        | cons u us ihu =>
          intro h
          have q1 := ihu (fun t ht => h t (by simp [ht]))
          have q2 := h u (by simp)
          simp only [List.flatMap_cons, List.length_append, List.length_cons]
          omega
      have := this ts (fun t ht => (hLs t ht).1)
      rw [hLe, List.nil_append]
      omega
    (conv => arg 1; ext i; whnf)
    refine Evx.call (introduce_ev ts hb) ?_
    (conv => arg 1; ext i; whnf)
    refine (Evx.loop hint8 7 (α := Nat) (fun i => [some (.d (.sl 3 (trees ts))), some (.d (.sl 3 (trees L1))), some (.d (.int .i64 0)), some (.d (.sl 1 (lists (introL ts (ts.length - 1))))), some (.d (.int .i64 (alsos (ts.take i)))), some (.d (.int .i64 (sizes (ts.take i)))), some (.d (.int .i64 i))]) (fun _ => []) 1 [] (fun i => ts.length - i) (fun i => .ret [.d (.bool true)]) ?_ 0 (fun _ => rfl) (fun _ => rfl) (fun _ => rfl) (fun _ => by kernel_rfl)).to rfl
    intro i bx L ih; (conv => arg 1; ext i; whnf)
    refine Evx.bool (fun h2 => ?_) (fun h2 => ?_)
    · have h2 := hold_true.1 h2
      simp only [trees_len, decide_eq_true_eq] at h2
      obtain ⟨x, hx⟩ := get_some (l := ts) (i := i) (by omega)
      have hxo := ho i x hx
      (conv => arg 1; ext i; whnf)
      refine Evx.idx rfl (trees_get hx) ?_
      (conv => arg 1; ext i; whnf)
      refine Evx.call (elided_ev x hxo) ?_
      (conv => arg 1; ext i; whnf)
      refine Evx.int (n' := ((alsos (ts.take (i + 1)) : Nat) : Int)) (by have := alsos_take hx; have := alsos_take_le ts (i + 1); rw [wrap_small] <;> omega) ?_
      (conv => arg 1; ext i; whnf)
      refine Evx.idx rfl (trees_get hx) ?_
      (conv => arg 1; ext i; whnf)
      refine Evx.call (rSize_ev x hxo) ?_
      (conv => arg 1; ext i; whnf)
      refine Evx.int (n' := ((sizes (ts.take (i + 1)) : Nat) : Int)) (by have := sizes_take hx; have := sizes_take_le ts (i + 1); rw [wrap_small] <;> omega) ?_
      (conv => arg 1; ext i; whnf)
      refine Evx.int (wrap_succ (by omega)) ?_
      (conv => arg 1; ext i; whnf)
      exact ih (i + 1) _ (by omega) (fun _ => by kernel_rfl)
    · have h2 := hold_false.1 h2
      simp only [trees_len, decide_eq_false_iff_not] at h2
      rw [List.take_of_length_le (by omega)]
      (conv => arg 1; ext i; whnf)
      refine (Evx.loop hint8 12 (α := Nat) (fun j => [some (.d (.sl 3 (trees ts))), some (.d (.sl 3 (trees L1))), some (.d (.int .i64 0)), some (.d (.sl 1 (lists (introL ts (ts.length - 1))))), some (.d (.int .i64 (alsos ts))), some (.d (.int .i64 (sizes ts))), some (.d (.int .i64 j))]) (fun _ => []) 1 [] (fun j => (introL ts (ts.length - 1)).length - j) (fun j => .ret [.d (.bool true)]) ?_ 0 (fun _ => rfl) (fun _ => rfl) (fun _ => rfl) (fun _ => by kernel_rfl)).to rfl
      intro j bx2 L2 ih2; (conv => arg 1; ext i; whnf)
      refine Evx.bool (fun h3 => ?_) (fun h3 => ?_)
      · have h3 := hold_true.1 h3
        simp only [lists_len, decide_eq_true_eq] at h3
        obtain ⟨l, hl⟩ := get_some (l := introL ts (ts.length - 1)) (i := j) (by omega)
        have hlm := List.mem_of_getElem? hl
        have hn : ts.length - 1 < ts.length := by
          rcases Nat.eq_zero_or_pos ts.length with h | h
          · rw [h] at hlm; simp [introL] at hlm
          · omega
        have hll := intro_len hn hlm
        have hlb : bulks l < 2 ^ 21 := Nat.lt_of_le_of_lt (intro_bulk hn hlm) hb
        obtain ⟨hls, hla⟩ := intro_sizes hn hw hlm
        have hlal := alsos_sizes l
        (conv => arg 1; ext i; whnf)
        refine Evx.idx rfl (lists_get hl) ?_
        (conv => arg 1; ext i; whnf)
        refine Evx.call (remove_ev l (by omega) (bulks_ok hlb)) ?_
        obtain ⟨r2, hr2⟩ : ∃ r, remR l false [] = r := ⟨_, rfl⟩
        rw [hr2]
        obtain ⟨_ | e2, M⟩ := r2
        · simp only [remOut]
          (conv => arg 1; ext i; whnf)
          refine (Evx.loop hint8 17 (α := Nat) (fun k => [some (.d (.sl 3 (trees ts))), some (.d (.sl 3 (trees L1))), some (.d (.int .i64 0)), some (.d (.sl 1 (lists (introL ts (ts.length - 1))))), some (.d (.int .i64 (alsos ts))), some (.d (.int .i64 (sizes ts))), some (.d (.int .i64 j)), some (.d (.sl 3 (trees M))), some (.d (.int .i64 0)), some (.d (.int .i64 (alsos (l.take k)))), some (.d (.int .i64 (sizes (l.take k)))), some (.d (.int .i64 k))]) (fun _ => []) 1 [] (fun k => l.length - k) (fun k => .ret [.d (.bool true)]) ?_ 0 (fun _ => rfl) (fun _ => rfl) (fun _ => rfl) (fun _ => by kernel_rfl)).to rfl
          intro k bx3 L3 ih3; (conv => arg 1; ext i; whnf)
          refine Evx.idx rfl (lists_get hl) ?_
          (conv => arg 1; ext i; whnf)
          refine Evx.bool (fun h4 => ?_) (fun h4 => ?_)
          · have h4 := hold_true.1 h4
            simp only [trees_len, decide_eq_true_eq] at h4
            obtain ⟨x, hx⟩ := get_some (l := l) (i := k) (by omega)
            have hxo := bulks_ok hlb k x hx
            (conv => arg 1; ext i; whnf)
            refine Evx.idx rfl (lists_get hl) ?_
            (conv => arg 1; ext i; whnf)
            refine Evx.idx rfl (trees_get hx) ?_
            (conv => arg 1; ext i; whnf)
            refine Evx.call (elided_ev x hxo) ?_
            (conv => arg 1; ext i; whnf)
            refine Evx.int (n' := ((alsos (l.take (k + 1)) : Nat) : Int)) (by have := alsos_take hx; have := alsos_take_le l (k + 1); rw [wrap_small] <;> omega) ?_
            (conv => arg 1; ext i; whnf)
            refine Evx.idx rfl (lists_get hl) ?_
            (conv => arg 1; ext i; whnf)
            refine Evx.idx rfl (trees_get hx) ?_
            (conv => arg 1; ext i; whnf)
            refine Evx.call (rSize_ev x hxo) ?_
            (conv => arg 1; ext i; whnf)
            refine Evx.int (n' := ((sizes (l.take (k + 1)) : Nat) : Int)) (by have := sizes_take hx; have := sizes_take_le l (k + 1); rw [wrap_small] <;> omega) ?_
            (conv => arg 1; ext i; whnf)
            refine Evx.int (wrap_succ (by omega)) ?_
            (conv => arg 1; ext i; whnf)
            exact ih3 (k + 1) _ (by omega) (fun _ => by kernel_rfl)
          · have h4 := hold_false.1 h4
            simp only [trees_len, decide_eq_false_iff_not] at h4
            rw [List.take_of_length_le (by omega)]
            (conv => arg 1; ext i; whnf)
            refine Evx.idx rfl (lists_get hl) ?_
            (conv => arg 1; ext i; whnf)
            refine Evx.int (n' := ((ts.length - 1 : Nat) : Int)) (by simp only [trees_len]; rw [wrap_small] <;> omega) ?_
            (conv => arg 1; ext i; whnf)
            refine Evx.bool (fun h5 => ?_) (fun _ => ?_)
            · have h5 := hold_true.1 h5
              simp only [trees_len, bne_iff_ne, ne_eq] at h5
              exact absurd (by omega) h5
            (conv => arg 1; ext i; whnf)
            refine Evx.bool (fun _ => ?_) (fun h6 => ?_)
            · (conv => arg 1; ext i; whnf)
              refine Evx.bool (fun _ => ?_) (fun h6 => ?_)
              · (conv => arg 1; ext i; whnf)
                obtain rfl : L1 = M := intro_remove hn hlm hr hr2
                refine Evx.call (sameAll_ev L1 L1 (by omega) hL1) ?_
                rw [(sames_iff L1 L1).2 rfl]
                (conv => arg 1; ext i; whnf)
                refine Evx.bool (fun h9 => ?_) (fun h9 => ?_)
                · have h9 := hold_true.1 h9
                  simp only [ge_iff_le, decide_eq_true_eq] at h9
                  exact absurd h9 (by omega)
                (conv => arg 1; ext i; whnf)
                refine Evx.int (n' := ((alsos ts + 1 : Nat) : Int)) (by rw [wrap_small] <;> omega) ?_
                (conv => arg 1; ext i; whnf)
                refine Evx.bool (fun h9 => ?_) (fun h9 => ?_)
                · have h9 := hold_true.1 h9
                  simp only [gt_iff_lt, decide_eq_true_eq] at h9
                  exact absurd h9 (by omega)
                (conv => arg 1; ext i; whnf)
                refine Evx.int (wrap_succ (by omega)) ?_
                (conv => arg 1; ext i; whnf)
                exact ih2 (j + 1) _ (by omega) (fun _ => by kernel_rfl)
              · exact absurd (hold_false.1 h6) (by decide)
            · exact absurd (hold_false.1 h6) (by decide)
        · simp only [remOut]
          (conv => arg 1; ext i; whnf)
          refine (Evx.loop hint8 17 (α := Nat) (fun k => [some (.d (.sl 3 (trees ts))), some (.d (.sl 3 (trees L1))), some (.d (.int .i64 0)), some (.d (.sl 1 (lists (introL ts (ts.length - 1))))), some (.d (.int .i64 (alsos ts))), some (.d (.int .i64 (sizes ts))), some (.d (.int .i64 j)), some (.d .nils), some (.d (.int .i64 e2)), some (.d (.int .i64 (alsos (l.take k)))), some (.d (.int .i64 (sizes (l.take k)))), some (.d (.int .i64 k))]) (fun _ => []) 1 [] (fun k => l.length - k) (fun k => .ret [.d (.bool true)]) ?_ 0 (fun _ => rfl) (fun _ => rfl) (fun _ => rfl) (fun _ => by kernel_rfl)).to rfl
          intro k bx3 L3 ih3; (conv => arg 1; ext i; whnf)
          refine Evx.idx rfl (lists_get hl) ?_
          (conv => arg 1; ext i; whnf)
          refine Evx.bool (fun h4 => ?_) (fun h4 => ?_)
          · have h4 := hold_true.1 h4
            simp only [trees_len, decide_eq_true_eq] at h4
            obtain ⟨x, hx⟩ := get_some (l := l) (i := k) (by omega)
            have hxo := bulks_ok hlb k x hx
            (conv => arg 1; ext i; whnf)
            refine Evx.idx rfl (lists_get hl) ?_
            (conv => arg 1; ext i; whnf)
            refine Evx.idx rfl (trees_get hx) ?_
            (conv => arg 1; ext i; whnf)
            refine Evx.call (elided_ev x hxo) ?_
            (conv => arg 1; ext i; whnf)
            refine Evx.int (n' := ((alsos (l.take (k + 1)) : Nat) : Int)) (by have := alsos_take hx; have := alsos_take_le l (k + 1); rw [wrap_small] <;> omega) ?_
            (conv => arg 1; ext i; whnf)
            refine Evx.idx rfl (lists_get hl) ?_
            (conv => arg 1; ext i; whnf)
            refine Evx.idx rfl (trees_get hx) ?_
            (conv => arg 1; ext i; whnf)
            refine Evx.call (rSize_ev x hxo) ?_
            (conv => arg 1; ext i; whnf)
            refine Evx.int (n' := ((sizes (l.take (k + 1)) : Nat) : Int)) (by have := sizes_take hx; have := sizes_take_le l (k + 1); rw [wrap_small] <;> omega) ?_
            (conv => arg 1; ext i; whnf)
            refine Evx.int (wrap_succ (by omega)) ?_
            (conv => arg 1; ext i; whnf)
            exact ih3 (k + 1) _ (by omega) (fun _ => by kernel_rfl)
          · have h4 := hold_false.1 h4
            simp only [trees_len, decide_eq_false_iff_not] at h4
            rw [List.take_of_length_le (by omega)]
            (conv => arg 1; ext i; whnf)
            refine Evx.idx rfl (lists_get hl) ?_
            (conv => arg 1; ext i; whnf)
            refine Evx.int (n' := ((ts.length - 1 : Nat) : Int)) (by simp only [trees_len]; rw [wrap_small] <;> omega) ?_
            (conv => arg 1; ext i; whnf)
            refine Evx.bool (fun h5 => ?_) (fun _ => ?_)
            · have h5 := hold_true.1 h5
              simp only [trees_len, bne_iff_ne, ne_eq] at h5
              exact absurd (by omega) h5
            (conv => arg 1; ext i; whnf)
            have he2 := remR_err hr2
            refine Evx.bool (fun _ => ?_) (fun h6 => ?_)
            · (conv => arg 1; ext i; whnf)
              refine Evx.bool (fun h6 => ?_) (fun _ => ?_)
              · exact absurd (hold_true.1 h6) (by simp [he2])
              · (conv => arg 1; ext i; whnf)
                refine Evx.bool (fun h9 => ?_) (fun h9 => ?_)
                · have h9 := hold_true.1 h9
                  simp only [ge_iff_le, decide_eq_true_eq] at h9
                  exact absurd h9 (by omega)
                (conv => arg 1; ext i; whnf)
                refine Evx.int (n' := ((alsos ts + 1 : Nat) : Int)) (by rw [wrap_small] <;> omega) ?_
                (conv => arg 1; ext i; whnf)
                refine Evx.bool (fun h9 => ?_) (fun h9 => ?_)
                · have h9 := hold_true.1 h9
                  simp only [gt_iff_lt, decide_eq_true_eq] at h9
                  exact absurd h9 (by omega)
                (conv => arg 1; ext i; whnf)
                refine Evx.int (wrap_succ (by omega)) ?_
                (conv => arg 1; ext i; whnf)
                exact ih2 (j + 1) _ (by omega) (fun _ => by kernel_rfl)
            · exact absurd (hold_false.1 h6) (by decide)
      · (conv => arg 1; ext i; whnf)
        refine Evx.call awake39_ev ?_
        (conv => arg 1; ext i; whnf)
        exact Evx.pure rfl
  · simp only [remOut]
    (conv => arg 1; ext i; whnf)
    refine Evx.call (introduce_ev ts hb) ?_
    (conv => arg 1; ext i; whnf)
    refine (Evx.loop hint8 7 (α := Nat) (fun i => [some (.d (.sl 3 (trees ts))), some (.d .nils), some (.d (.int .i64 e)), some (.d (.sl 1 (lists (introL ts (ts.length - 1))))), some (.d (.int .i64 (alsos (ts.take i)))), some (.d (.int .i64 (sizes (ts.take i)))), some (.d (.int .i64 i))]) (fun _ => []) 1 [] (fun i => ts.length - i) (fun i => .ret [.d (.bool true)]) ?_ 0 (fun _ => rfl) (fun _ => rfl) (fun _ => rfl) (fun _ => by kernel_rfl)).to rfl
    intro i bx L ih; (conv => arg 1; ext i; whnf)
    refine Evx.bool (fun h2 => ?_) (fun h2 => ?_)
    · have h2 := hold_true.1 h2
      simp only [trees_len, decide_eq_true_eq] at h2
      obtain ⟨x, hx⟩ := get_some (l := ts) (i := i) (by omega)
      have hxo := ho i x hx
      (conv => arg 1; ext i; whnf)
      refine Evx.idx rfl (trees_get hx) ?_
      (conv => arg 1; ext i; whnf)
      refine Evx.call (elided_ev x hxo) ?_
      (conv => arg 1; ext i; whnf)
      refine Evx.int (n' := ((alsos (ts.take (i + 1)) : Nat) : Int)) (by have := alsos_take hx; have := alsos_take_le ts (i + 1); rw [wrap_small] <;> omega) ?_
      (conv => arg 1; ext i; whnf)
      refine Evx.idx rfl (trees_get hx) ?_
      (conv => arg 1; ext i; whnf)
      refine Evx.call (rSize_ev x hxo) ?_
      (conv => arg 1; ext i; whnf)
      refine Evx.int (n' := ((sizes (ts.take (i + 1)) : Nat) : Int)) (by have := sizes_take hx; have := sizes_take_le ts (i + 1); rw [wrap_small] <;> omega) ?_
      (conv => arg 1; ext i; whnf)
      refine Evx.int (wrap_succ (by omega)) ?_
      (conv => arg 1; ext i; whnf)
      exact ih (i + 1) _ (by omega) (fun _ => by kernel_rfl)
    · have h2 := hold_false.1 h2
      simp only [trees_len, decide_eq_false_iff_not] at h2
      rw [List.take_of_length_le (by omega)]
      (conv => arg 1; ext i; whnf)
      refine (Evx.loop hint8 12 (α := Nat) (fun j => [some (.d (.sl 3 (trees ts))), some (.d .nils), some (.d (.int .i64 e)), some (.d (.sl 1 (lists (introL ts (ts.length - 1))))), some (.d (.int .i64 (alsos ts))), some (.d (.int .i64 (sizes ts))), some (.d (.int .i64 j))]) (fun _ => []) 1 [] (fun j => (introL ts (ts.length - 1)).length - j) (fun j => .ret [.d (.bool true)]) ?_ 0 (fun _ => rfl) (fun _ => rfl) (fun _ => rfl) (fun _ => by kernel_rfl)).to rfl
      intro j bx2 L2 ih2; (conv => arg 1; ext i; whnf)
      refine Evx.bool (fun h3 => ?_) (fun h3 => ?_)
      · have h3 := hold_true.1 h3
        simp only [lists_len, decide_eq_true_eq] at h3
        obtain ⟨l, hl⟩ := get_some (l := introL ts (ts.length - 1)) (i := j) (by omega)
        have hlm := List.mem_of_getElem? hl
        have hn : ts.length - 1 < ts.length := by
          rcases Nat.eq_zero_or_pos ts.length with h | h
          · rw [h] at hlm; simp [introL] at hlm
          · omega
        have hll := intro_len hn hlm
        have hlb : bulks l < 2 ^ 21 := Nat.lt_of_le_of_lt (intro_bulk hn hlm) hb
        obtain ⟨hls, hla⟩ := intro_sizes hn hw hlm
        have hlal := alsos_sizes l
        (conv => arg 1; ext i; whnf)
        refine Evx.idx rfl (lists_get hl) ?_
        (conv => arg 1; ext i; whnf)
        refine Evx.call (remove_ev l (by omega) (bulks_ok hlb)) ?_
        obtain ⟨r2, hr2⟩ : ∃ r, remR l false [] = r := ⟨_, rfl⟩
        rw [hr2]
        obtain ⟨_ | e2, M⟩ := r2
        · simp only [remOut]
          (conv => arg 1; ext i; whnf)
          refine (Evx.loop hint8 17 (α := Nat) (fun k => [some (.d (.sl 3 (trees ts))), some (.d .nils), some (.d (.int .i64 e)), some (.d (.sl 1 (lists (introL ts (ts.length - 1))))), some (.d (.int .i64 (alsos ts))), some (.d (.int .i64 (sizes ts))), some (.d (.int .i64 j)), some (.d (.sl 3 (trees M))), some (.d (.int .i64 0)), some (.d (.int .i64 (alsos (l.take k)))), some (.d (.int .i64 (sizes (l.take k)))), some (.d (.int .i64 k))]) (fun _ => []) 1 [] (fun k => l.length - k) (fun k => .ret [.d (.bool true)]) ?_ 0 (fun _ => rfl) (fun _ => rfl) (fun _ => rfl) (fun _ => by kernel_rfl)).to rfl
          intro k bx3 L3 ih3; (conv => arg 1; ext i; whnf)
          refine Evx.idx rfl (lists_get hl) ?_
          (conv => arg 1; ext i; whnf)
          refine Evx.bool (fun h4 => ?_) (fun h4 => ?_)
          · have h4 := hold_true.1 h4
            simp only [trees_len, decide_eq_true_eq] at h4
            obtain ⟨x, hx⟩ := get_some (l := l) (i := k) (by omega)
            have hxo := bulks_ok hlb k x hx
            (conv => arg 1; ext i; whnf)
            refine Evx.idx rfl (lists_get hl) ?_
            (conv => arg 1; ext i; whnf)
            refine Evx.idx rfl (trees_get hx) ?_
            (conv => arg 1; ext i; whnf)
            refine Evx.call (elided_ev x hxo) ?_
            (conv => arg 1; ext i; whnf)
            refine Evx.int (n' := ((alsos (l.take (k + 1)) : Nat) : Int)) (by have := alsos_take hx; have := alsos_take_le l (k + 1); rw [wrap_small] <;> omega) ?_
            (conv => arg 1; ext i; whnf)
            refine Evx.idx rfl (lists_get hl) ?_
            (conv => arg 1; ext i; whnf)
            refine Evx.idx rfl (trees_get hx) ?_
            (conv => arg 1; ext i; whnf)
            refine Evx.call (rSize_ev x hxo) ?_
            (conv => arg 1; ext i; whnf)
            refine Evx.int (n' := ((sizes (l.take (k + 1)) : Nat) : Int)) (by have := sizes_take hx; have := sizes_take_le l (k + 1); rw [wrap_small] <;> omega) ?_
            (conv => arg 1; ext i; whnf)
            refine Evx.int (wrap_succ (by omega)) ?_
            (conv => arg 1; ext i; whnf)
            exact ih3 (k + 1) _ (by omega) (fun _ => by kernel_rfl)
          · have h4 := hold_false.1 h4
            simp only [trees_len, decide_eq_false_iff_not] at h4
            rw [List.take_of_length_le (by omega)]
            (conv => arg 1; ext i; whnf)
            refine Evx.idx rfl (lists_get hl) ?_
            (conv => arg 1; ext i; whnf)
            refine Evx.int (n' := ((ts.length - 1 : Nat) : Int)) (by simp only [trees_len]; rw [wrap_small] <;> omega) ?_
            (conv => arg 1; ext i; whnf)
            refine Evx.bool (fun h5 => ?_) (fun _ => ?_)
            · have h5 := hold_true.1 h5
              simp only [trees_len, bne_iff_ne, ne_eq] at h5
              exact absurd (by omega) h5
            (conv => arg 1; ext i; whnf)
            have he1 := remR_err hr
            refine Evx.bool (fun h6 => ?_) (fun _ => ?_)
            · exact absurd (hold_true.1 h6) (by simp [he1])
            · (conv => arg 1; ext i; whnf)
              refine Evx.bool (fun h9 => ?_) (fun h9 => ?_)
              · have h9 := hold_true.1 h9
                simp only [ge_iff_le, decide_eq_true_eq] at h9
                exact absurd h9 (by omega)
              (conv => arg 1; ext i; whnf)
              refine Evx.int (n' := ((alsos ts + 1 : Nat) : Int)) (by rw [wrap_small] <;> omega) ?_
              (conv => arg 1; ext i; whnf)
              refine Evx.bool (fun h9 => ?_) (fun h9 => ?_)
              · have h9 := hold_true.1 h9
                simp only [gt_iff_lt, decide_eq_true_eq] at h9
                exact absurd h9 (by omega)
              (conv => arg 1; ext i; whnf)
              refine Evx.int (wrap_succ (by omega)) ?_
              (conv => arg 1; ext i; whnf)
              exact ih2 (j + 1) _ (by omega) (fun _ => by kernel_rfl)
        · simp only [remOut]
          (conv => arg 1; ext i; whnf)
          refine (Evx.loop hint8 17 (α := Nat) (fun k => [some (.d (.sl 3 (trees ts))), some (.d .nils), some (.d (.int .i64 e)), some (.d (.sl 1 (lists (introL ts (ts.length - 1))))), some (.d (.int .i64 (alsos ts))), some (.d (.int .i64 (sizes ts))), some (.d (.int .i64 j)), some (.d .nils), some (.d (.int .i64 e2)), some (.d (.int .i64 (alsos (l.take k)))), some (.d (.int .i64 (sizes (l.take k)))), some (.d (.int .i64 k))]) (fun _ => []) 1 [] (fun k => l.length - k) (fun k => .ret [.d (.bool true)]) ?_ 0 (fun _ => rfl) (fun _ => rfl) (fun _ => rfl) (fun _ => by kernel_rfl)).to rfl
          intro k bx3 L3 ih3; (conv => arg 1; ext i; whnf)
          refine Evx.idx rfl (lists_get hl) ?_
          (conv => arg 1; ext i; whnf)
          refine Evx.bool (fun h4 => ?_) (fun h4 => ?_)
          · have h4 := hold_true.1 h4
            simp only [trees_len, decide_eq_true_eq] at h4
            obtain ⟨x, hx⟩ := get_some (l := l) (i := k) (by omega)
            have hxo := bulks_ok hlb k x hx
            (conv => arg 1; ext i; whnf)
            refine Evx.idx rfl (lists_get hl) ?_
            (conv => arg 1; ext i; whnf)
            refine Evx.idx rfl (trees_get hx) ?_
            (conv => arg 1; ext i; whnf)
            refine Evx.call (elided_ev x hxo) ?_
            (conv => arg 1; ext i; whnf)
            refine Evx.int (n' := ((alsos (l.take (k + 1)) : Nat) : Int)) (by have := alsos_take hx; have := alsos_take_le l (k + 1); rw [wrap_small] <;> omega) ?_
            (conv => arg 1; ext i; whnf)
            refine Evx.idx rfl (lists_get hl) ?_
            (conv => arg 1; ext i; whnf)
            refine Evx.idx rfl (trees_get hx) ?_
            (conv => arg 1; ext i; whnf)
            refine Evx.call (rSize_ev x hxo) ?_
            (conv => arg 1; ext i; whnf)
            refine Evx.int (n' := ((sizes (l.take (k + 1)) : Nat) : Int)) (by have := sizes_take hx; have := sizes_take_le l (k + 1); rw [wrap_small] <;> omega) ?_
            (conv => arg 1; ext i; whnf)
            refine Evx.int (wrap_succ (by omega)) ?_
            (conv => arg 1; ext i; whnf)
            exact ih3 (k + 1) _ (by omega) (fun _ => by kernel_rfl)
          · have h4 := hold_false.1 h4
            simp only [trees_len, decide_eq_false_iff_not] at h4
            rw [List.take_of_length_le (by omega)]
            (conv => arg 1; ext i; whnf)
            refine Evx.idx rfl (lists_get hl) ?_
            (conv => arg 1; ext i; whnf)
            refine Evx.int (n' := ((ts.length - 1 : Nat) : Int)) (by simp only [trees_len]; rw [wrap_small] <;> omega) ?_
            (conv => arg 1; ext i; whnf)
            refine Evx.bool (fun h5 => ?_) (fun _ => ?_)
            · have h5 := hold_true.1 h5
              simp only [trees_len, bne_iff_ne, ne_eq] at h5
              exact absurd (by omega) h5
            (conv => arg 1; ext i; whnf)
            have he1 := remR_err hr
            refine Evx.bool (fun h6 => ?_) (fun _ => ?_)
            · exact absurd (hold_true.1 h6) (by simp [he1])
            · (conv => arg 1; ext i; whnf)
              refine Evx.bool (fun h9 => ?_) (fun h9 => ?_)
              · have h9 := hold_true.1 h9
                simp only [ge_iff_le, decide_eq_true_eq] at h9
                exact absurd h9 (by omega)
              (conv => arg 1; ext i; whnf)
              refine Evx.int (n' := ((alsos ts + 1 : Nat) : Int)) (by rw [wrap_small] <;> omega) ?_
              (conv => arg 1; ext i; whnf)
              refine Evx.bool (fun h9 => ?_) (fun h9 => ?_)
              · have h9 := hold_true.1 h9
                simp only [gt_iff_lt, decide_eq_true_eq] at h9
                exact absurd h9 (by omega)
              (conv => arg 1; ext i; whnf)
              refine Evx.int (wrap_succ (by omega)) ?_
              (conv => arg 1; ext i; whnf)
              exact ih2 (j + 1) _ (by omega) (fun _ => by kernel_rfl)
      · (conv => arg 1; ext i; whnf)
        refine Evx.call awake39_ev ?_
        (conv => arg 1; ext i; whnf)
        exact Evx.pure rfl
end Go.Proofs.Ytfkfcjdoebjlfaa
