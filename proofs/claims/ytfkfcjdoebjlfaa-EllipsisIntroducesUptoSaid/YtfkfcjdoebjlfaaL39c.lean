/- The laws of layer 39, walked: the roots of expansions. -/
import Derived.Test.YtfkfcjdoebjlfaaL39a
import Derived.Test.YtfkfcjdoebjlfaaP39
namespace Go.Proofs.Ytfkfcjdoebjlfaa
open Go Go.Abs Go.Abs.Asks
set_option linter.unusedVariables false
set_option linter.unusedSimpArgs false
set_option linter.unusedSectionVars false

theorem bot_none : ∀ (j : Nat) (t : Tree), t.ks[0]? = none → bot j t = t
  | 0, t, _ => rfl
  | j + 1, t, h => by simp only [bot, h]
theorem bot_succ : ∀ (j : Nat) (t k : Tree), (bot j t).ks[0]? = some k → bot (j + 1) t = k
  | 0, t, k, h => by
    have h : t.ks[0]? = some k := h
    simp only [bot, h]
  | j + 1, t, k, h => by
    cases hk : t.ks[0]? with
    | none => rw [bot_none _ t hk, hk] at h; cases h
    | some k' =>
      have e : bot (j + 1) t = bot j k' := by simp only [bot, hk]
      rw [e] at h
      have e2 : bot (j + 1 + 1) t = bot (j + 1) k' := by simp only [bot, hk]
      rw [e2]
      exact bot_succ j k' k h
/-- On the way to the bottom. -/
theorem bot_step {t : Tree} {d : Nat} (hd : t.depth = d) (hw : t.well fs0 = some sS) (ho : t.ok) : ∀ j, j ≤ d → (bot j t).depth = d - j ∧ (bot j t).well fs0 = some sS ∧ (bot j t).ok
  | 0, _ => ⟨hd, hw, ho⟩
  | j + 1, hj => by
    obtain ⟨h1, h2, h3⟩ := bot_step hd hw ho j (by omega)
    have h4 : (bot j t).depth = (d - j - 1) + 1 := by omega
    obtain ⟨ha, k, np, hk, hkd⟩ := depth_succ h4
    obtain ⟨k', np', hk', w1, _⟩ := also_kids h2 ha
    rw [hk] at hk'
    simp only [List.cons.injEq, and_true] at hk'
    obtain ⟨rfl, rfl⟩ := hk'
    have k0 : (bot j t).ks[0]? = some k := by rw [hk]; rfl
    rw [bot_succ j t k k0]
    exact ⟨by omega, w1, h3.kid k0⟩

theorem catR_sent {t : Tree} (h : Sent t) : catR fs0 t = (sS, 0) := by
  unfold catR
  rw [if_neg (by have := h.1; omega), h.2]
noncomputable def sentB (t : Tree) : Bool := decide ((catR fs0 t).2 = 0) && decide ((catR fs0 t).1 = sS)
theorem sentB_iff (t : Tree) : sentB t = true ↔ Sent t := by
  constructor
  · intro h
    simp only [sentB, Bool.and_eq_true, decide_eq_true_eq] at h
    unfold catR at h
    by_cases hs : 60 < t.size
    · rw [if_pos hs] at h; exact absurd h.1 (by decide)
    · rw [if_neg hs] at h
      cases hw : t.well fs0 with
      | none => rw [hw] at h; exact absurd h.1 (by decide)
      | some c => rw [hw] at h; exact ⟨by omega, by rw [hw]; exact congrArg some h.2⟩
  · intro h
    simp only [sentB, catR_sent h]; rfl
variable [Asks]

theorem sentence_ev (t : Tree) (ht : t.ok) : Ev pr 28 [t.d] (.ret [.d (.bool (sentB t))]) := by
  apply Ev.enter; intro c; (conv => arg 1; ext i; whnf)
  refine Evx.call functions_ev ?_
  (conv => arg 1; ext i; whnf)
  refine Evx.call (rCat_ev fs0 fs0_len t ht) ?_
  (conv => arg 1; ext i; whnf)
  refine Evx.bool (fun h1 => ?_) (fun h1 => ?_)
  · have h1 := hold_true.1 h1
    simp only [beq_iff_eq] at h1
    (conv => arg 1; ext i; whnf)
    refine Evx.pure ?_
    simp only [sentB, h1, decide_true, Bool.true_and]
    congr 4
    cases hs : seq (catR fs0 t).1 (ByteArray.mk #[83]) with
    | true => exact (decide_eq_true (seq_iff.1 hs)).symm
    | false => exact (decide_eq_false (seq_ne.1 hs)).symm
  · have h1 := hold_false.1 h1
    simp only [beq_eq_false_iff_ne, ne_eq] at h1
    (conv => arg 1; ext i; whnf)
    refine Evx.pure ?_
    simp only [sentB, decide_eq_false h1, Bool.false_and]

noncomputable def sentsB (ts : List Tree) (n : Int) : Bool := ts.all sentB && decide ((ts.length : Int) ≤ n)
theorem sentences_ev (ts : List Tree) (n : Int) (hl : ts.length < 2 ^ 40) (ho : ∀ (i : Nat) t, ts[i]? = some t → t.ok) : Ev pr 23 [.sl 3 (trees ts), .int .i64 n] (.ret [.d (.bool (sentsB ts n))]) := by
  apply Ev.enter; intro c; (conv => arg 1; ext i; whnf)
  refine (Evx.loop hint23 2 (α := Nat) (fun a => [some (.d (.sl 3 (trees ts))), some (.d (.int .i64 n)), some (.d (.int .i64 a))]) (fun a => []) 1 [] (fun a => ts.length - a) (fun a => .ret [.d (.bool ((ts.drop a).all sentB && decide ((ts.length : Int) ≤ n)))]) ?_ 0 (fun _ => rfl) (fun _ => rfl) (fun _ => rfl) (fun _ => by kernel_rfl)).to (by simp [sentsB])
  intro a bx L ih; (conv => arg 1; ext i; whnf)
  refine Evx.bool (fun h2 => ?_) (fun h2 => ?_)
  · have h2 := hold_true.1 h2
    simp only [trees_len, decide_eq_true_eq] at h2
    obtain ⟨x, hx⟩ := get_some (l := ts) (i := a) (by omega)
    rw [drop_cons hx]
    (conv => arg 1; ext i; whnf)
    refine Evx.idx rfl (trees_get hx) ?_
    (conv => arg 1; ext i; whnf)
    refine Evx.call (sentence_ev x (ho a x hx)) ?_
    (conv => arg 1; ext i; whnf)
    refine Evx.bool (fun h3 => ?_) (fun h3 => ?_)
    · simp only [Bool.not_eq_true'] at h3
      (conv => arg 1; ext i; whnf)
      refine Evx.pure ?_
      rw [List.all_cons, h3]; rfl
    · simp only [Bool.not_eq_false'] at h3
      (conv => arg 1; ext i; whnf)
      refine Evx.int (wrap_succ (by omega)) ?_
      (conv => arg 1; ext i; whnf)
      refine (ih (a + 1) _ (by omega) (fun _ => by kernel_rfl)).to ?_
      rw [List.all_cons, h3, Bool.true_and]
  · have h2 := hold_false.1 h2
    simp only [trees_len, decide_eq_false_iff_not] at h2
    (conv => arg 1; ext i; whnf)
    refine Evx.pure ?_
    rw [List.drop_eq_nil_of_le (by omega), hold_eq, trees_len]; rfl

theorem roots_ev (t : Tree) (ht : t.ok) : Ev pr 10 [t.d] (.ret [.d (.bool true)]) := by
  apply Ev.enter; intro c; (conv => arg 1; ext i; whnf)
  refine Evx.call (sentence_ev t ht) ?_
  (conv => arg 1; ext i; whnf)
  refine Evx.bool (fun h1 => ?_) (fun h1 => ?_)
  · (conv => arg 1; ext i; whnf)
    refine Evx.call awake39_ev ?_
    (conv => arg 1; ext i; whnf)
    exact Evx.pure rfl
  simp only [Bool.not_eq_false'] at h1
  have hs : Sent t := (sentB_iff t).1 h1
  (conv => arg 1; ext i; whnf)
  refine Evx.call (expandE_ev t ht) ?_
  obtain ⟨r, hr⟩ : ∃ r, remR [t] false [] = r := ⟨_, rfl⟩
  rw [hr]
  rw [remR_one] at hr
  obtain ⟨_ | e, out⟩ := r
  · -- without an error
    split at hr
    · cases hr
    rename_i hb
    split at hr
    · cases hr
    rename_i hc
    simp only [Prod.mk.injEq, true_and] at hr
    obtain ⟨d, hd⟩ : ∃ d, t.depth = d := ⟨_, rfl⟩
    rw [hd] at hr hb hc
    have hsub : d = 0 ∨ t.subj.isSome = true := by
      by_cases h0 : d = 0
      · exact .inl h0
      · right
        cases hq : t.subj with
        | none => exact absurd ⟨h0, hq⟩ hb
        | some _ => rfl
    have hlen := exL_len d t hd hsub
    have hpow := exN_pow d (by omega)
    have hsent := exL_sent d t hd hs hsub
    have hhead := exL_head d t hd
    have hblk := exL_bulk d t
    have hd8 : d ≤ 8 := by
      rcases Nat.lt_or_ge 8 d with h | h
      · have : 2 ^ 9 ≤ 2 ^ d := Nat.pow_le_pow_right (by decide) h
        omega
      · exact h
    subst hr
    simp only [remOut]
    (conv => arg 1; ext i; whnf)
    refine Evx.bool (fun h2 => ?_) (fun _ => ?_)
    · exact absurd (hold_true.1 h2) (by decide)
    (conv => arg 1; ext i; whnf)
    refine (Evx.loop hint10 7 (α := { j : Nat // j ≤ d }) (fun j => [some (.d (.sl 3 (trees (exL d t)))), some (.d (.int .i64 ((2 ^ j.1 : Nat) : Int))), some (.ptr 1 6 0)]) (fun j => [some (treeBox (bot j.1 t))]) 1 [] (fun j => d - j.1) (fun j => .ret [.d (.bool true)]) ?_ ⟨0, Nat.zero_le _⟩ (fun _ => rfl) (fun _ => rfl) (fun _ => rfl) (fun _ => by kernel_rfl)).to rfl
    rintro ⟨j, hj⟩ bx L ih
    obtain ⟨b1, b2, b3⟩ := bot_step hd hs.2 ht j hj
    (conv => arg 1; ext i; whnf)
    refine Evx.bool (fun h3 => ?_) (fun h3 => ?_)
    · have h3 : (bot j t).fn = sAlso := seq_iff.1 h3
      have hjd : j < d := by
        rcases Nat.lt_or_ge j d with h | h
        · exact h
        · exact absurd h3 ((depth_also b2).1 (by omega))
      obtain ⟨k, np, hk, _, _⟩ := also_kids b2 h3
      have k0 : (bot j t).ks[0]? = some k := by rw [hk]; rfl
      have hb := bot_succ j t k k0
      have hp : 2 ^ j ≤ 2 ^ 8 := Nat.pow_le_pow_right (by decide) (by omega)
      (conv => arg 1; ext i; whnf)
      have e2 : 2 ^ (j + 1) = 2 * 2 ^ j := by rw [Nat.pow_succ]; omega
      refine Evx.int (n' := ((2 ^ (j + 1) : Nat) : Int)) (by rw [wrap_small] <;> dsimp only <;> omega) ?_
      (conv => arg 1; ext i; whnf)
      refine Evx.idx (m := 0) rfl (trees_get k0) ?_
      (conv => arg 1; ext i; whnf)
      refine ih ⟨j + 1, hjd⟩ _ (by dsimp only; omega) ?_
      intro i
      dsimp only
      rw [hb]
      kernel_rfl
    · have h3 : (bot j t).fn ≠ sAlso := seq_ne.1 h3
      have hjd : j = d := by
        have := (depth_also b2).2 h3
        omega
      subst hjd
      (conv => arg 1; ext i; whnf)
      clear ih L
      refine (Evx.loop hint10 10 (α := Nat) (fun a => [some (.d (.sl 3 (trees (exL j t)))), some (.d (.int .i64 ((2 ^ j : Nat) : Int))), some (.ptr 1 6 0), some (.d (.int .i64 a))]) (fun a => [some (treeBox (bot j t))]) 1 [] (fun a => (exL j t).length - a) (fun a => .ret [.d (.bool true)]) ?_ 0 (fun _ => rfl) (fun _ => rfl) (fun _ => rfl) (fun _ => by kernel_rfl)).to rfl
      intro a bx L ih; (conv => arg 1; ext i; whnf)
      refine Evx.bool (fun h4 => ?_) (fun h4 => ?_)
      · have h4 := hold_true.1 h4
        simp only [trees_len, decide_eq_true_eq] at h4
        obtain ⟨x, hx⟩ := get_some (l := exL j t) (i := a) (by omega)
        obtain ⟨s1, s2⟩ := hsent x (List.mem_of_getElem? hx)
        have hxo : x.ok := by have := hblk x (List.mem_of_getElem? hx); unfold Tree.ok at ht ⊢; omega
        (conv => arg 1; ext i; whnf)
        refine Evx.call functions_ev ?_
        (conv => arg 1; ext i; whnf)
        refine Evx.idx rfl (trees_get hx) ?_
        (conv => arg 1; ext i; whnf)
        refine Evx.call (aCat_ev fs0 fs0_len x hxo) ?_
        rw [catR_sent s1]
        (conv => arg 1; ext i; whnf)
        refine Evx.idx rfl (trees_get hx) ?_
        (conv => arg 1; ext i; whnf)
        refine Evx.bool (fun h5 => ?_) (fun h5 => ?_)
        · exact absurd (seq_iff.1 h5) s2
        (conv => arg 1; ext i; whnf)
        refine Evx.bool (fun h6 => ?_) (fun h6 => ?_)
        · exact absurd (hold_true.1 h6) (by decide)
        (conv => arg 1; ext i; whnf)
        refine Evx.bool (fun h7 => ?_) (fun h7 => ?_)
        · simp only [Bool.not_eq_true'] at h7
          exact absurd rfl (seq_ne.1 h7)
        (conv => arg 1; ext i; whnf)
        refine Evx.int (wrap_succ (by omega)) ?_
        (conv => arg 1; ext i; whnf)
        exact ih (a + 1) _ (by omega) (fun _ => by kernel_rfl)
      · have h4 := hold_false.1 h4
        simp only [trees_len, decide_eq_false_iff_not] at h4
        (conv => arg 1; ext i; whnf)
        refine Evx.call awake39_ev ?_
        (conv => arg 1; ext i; whnf)
        refine Evx.bool (fun h5 => ?_) (fun h5 => ?_)
        · (conv => arg 1; ext i; whnf)
          refine Evx.idx (m := 0) rfl (trees_get hhead) ?_
          (conv => arg 1; ext i; whnf)
          refine Evx.call (same_ev (bot j t) (bot j t) b3) ?_
          (conv => arg 1; ext i; whnf)
          refine Evx.pure ?_
          rw [(same_iff _ _).2 rfl]
        · have h5 := hold_false.1 h5
          simp only [trees_len, beq_eq_false_iff_ne, ne_eq] at h5
          exact absurd (by rw [hlen, hpow]) h5
  · -- with one
    have hds : t.depth ≠ 0 := by
      intro h0
      split at hr
      · rename_i hb; exact hb.1 h0
      · split at hr
        · rename_i hc; rw [h0] at hc; exact absurd hc (by simp [exL])
        · cases hr
    have hfn : t.fn = sAlso := Classical.byContradiction fun h => hds (depth_zero (.inl h))
    have he : e ≠ 0 := by
      split at hr
      · cases hr; decide
      · split at hr
        · cases hr; decide
        · cases hr
    simp only [remOut]
    (conv => arg 1; ext i; whnf)
    refine Evx.bool (fun h2 => ?_) (fun h2 => ?_)
    · (conv => arg 1; ext i; whnf)
      refine Evx.call awake39_ev ?_
      (conv => arg 1; ext i; whnf)
      refine Evx.bool (fun h3 => ?_) (fun h3 => ?_)
      · (conv => arg 1; ext i; whnf)
        refine Evx.pure ?_
        rw [show seq t.fn (ByteArray.mk #[65, 108, 115, 111]) = true from seq_iff.2 hfn]
      · exact absurd (hold_false.1 h3) (by simp)
    · exact absurd (hold_false.1 h2) (by simp [he])
end Go.Proofs.Ytfkfcjdoebjlfaa
