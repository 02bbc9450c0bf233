/- What is introduced is removed again: on plain data. -/
import Derived.Test.YtfkfcjdoebjlfaaI39
import Derived.Test.YtfkfcjdoebjlfaaL39c
namespace Go.Proofs.Ytfkfcjdoebjlfaa
open Go Go.Abs Go.Abs.Asks
set_option linter.unusedVariables false
set_option linter.unusedSimpArgs false

/-- Lists that Introduce hands back, and where they come from. -/
theorem introL_mem (ts : List Tree) : ∀ (n : Nat) (l : List Tree), l ∈ introL ts n → ∃ i, 1 ≤ i ∧ i ≤ n ∧ l ∈ introAt ts i
  | 0, l, h => by simp [introL] at h
  | n + 1, l, h => by
    simp only [introL, List.mem_append] at h
    rcases h with h | h
    · obtain ⟨i, h1, h2, h3⟩ := introL_mem ts n l h
      exact ⟨i, h1, by omega, h3⟩
    · exact ⟨n + 1, by omega, Nat.le_refl _, h⟩

theorem introAt_mem {ts : List Tree} {i : Nat} {l : List Tree} (h : l ∈ introAt ts i) : ∃ a b np, ts[i - 1]? = some a ∧ ts[i]? = some b ∧ parB a b = true ∧ b.subj = some np ∧ (alsoT a np).size ≤ 60 ∧ l = partL ts i (alsoT a np) ts.length := by
  unfold introAt at h
  split at h
  · rename_i a b ha hb
    split at h
    · rename_i hp
      split at h
      · rename_i np hn
        split at h
        · simp at h
        · rename_i hs
          simp only [List.mem_singleton] at h
          exact ⟨a, b, np, ha, hb, hp, hn, by omega, h⟩
      · simp at h
    · simp at h
  · simp at h

theorem part_le (ts : List Tree) (i : Nat) (t : Tree) : ∀ k, k < i → partL ts i t k = ts.take k
  | 0, _ => by simp [partL]
  | k + 1, h => by
    simp only [partL]
    rw [part_le ts i t k (by omega), if_neg (by omega), if_neg (by omega)]
    cases hx : ts[k]? with
    | none => rw [List.take_add_one, hx]; rfl
    | some x => rw [take_succ' hx]
theorem part_ge (ts : List Tree) (i : Nat) (t : Tree) (hi : 1 ≤ i) : ∀ n, partL ts i t (i + 1 + n) = ts.take (i - 1) ++ [t] ++ (ts.drop (i + 1)).take n
  | 0 => by
    obtain ⟨j, rfl⟩ : ∃ j, i = j + 1 := ⟨i - 1, by omega⟩
    simp only [partL, Nat.add_zero]
    rw [part_le ts (j + 1) t j (by omega)]
    simp
  | n + 1 => by
    rw [show i + 1 + (n + 1) = (i + 1 + n) + 1 by omega]
    simp only [partL]
    rw [part_ge ts i t hi n, if_neg (by omega), if_neg (by omega), List.take_add_one, List.getElem?_drop]
    cases ts[i + 1 + n]? with
    | none => simp
    | some x => simp
theorem part_eq {ts : List Tree} {i : Nat} {t : Tree} (hi : 1 ≤ i) (hl : i < ts.length) : partL ts i t ts.length = ts.take (i - 1) ++ [t] ++ ts.drop (i + 1) := by
  have := part_ge ts i t hi (ts.length - (i + 1))
  rw [show i + 1 + (ts.length - (i + 1)) = ts.length by omega] at this
  rw [this, List.take_of_length_le (l := ts.drop (i + 1)) (by rw [List.length_drop]; exact Nat.le_refl _)]

theorem split2 {ts : List Tree} {i : Nat} {a b : Tree} (hi : 1 ≤ i) (ha : ts[i - 1]? = some a) (hb : ts[i]? = some b) : ts = ts.take (i - 1) ++ [a, b] ++ ts.drop (i + 1) := by
  have h1 := drop_cons ha
  rw [show i - 1 + 1 = i by omega, drop_cons hb] at h1
  have := List.take_append_drop (i - 1) ts
  rw [h1] at this
  exact this.symm.trans (by simp)

/-- What Remove hands back, if it does: the expansions one behind the other. -/
theorem remR_ok : ∀ (ts : List Tree) (o : Bool) (out L : List Tree), remR ts o out = (none, L) → o = false ∧ L = out ++ ts.flatMap (fun t => exL t.depth t) ∧ ∀ t ∈ ts, (exL t.depth t).length ≤ 256 ∧ ¬ (t.depth ≠ 0 ∧ t.subj = none)
  | [], o, out, L, h => by
    simp only [remR] at h
    split at h
    · cases h
    · rename_i ho
      cases h
      exact ⟨by simpa using ho, by simp, by simp⟩
  | t :: ts, o, out, L, h => by
    simp only [remR] at h
    split at h
    · cases h
    rename_i hb
    split at h
    · cases h
    rename_i hc
    split at h
    · have := (remR_ok ts true out L h).1
      cases this
    · rename_i hd
      obtain ⟨h1, h2, h3⟩ := remR_ok ts false _ L h
      refine ⟨?_, ?_, ?_⟩
      · cases o with
        | true => exact absurd (.inl rfl) hd
        | false => rfl
      · rw [h2]; simp
      · intro u hu
        rcases List.mem_cons.1 hu with rfl | hu
        · exact ⟨by omega, hb⟩
        · exact h3 u hu

theorem alsoT_depth (a np : Tree) : (alsoT a np).depth = a.depth + 1 := by
  simp only [alsoT, Tree.depth, if_true]

/-- The same sentences come back. -/
theorem intro_remove {ts : List Tree} {l L M : List Tree} {n : Nat} (hn : n < ts.length) (hl : l ∈ introL ts n) (h1 : remR ts false [] = (none, L)) (h2 : remR l false [] = (none, M)) : L = M := by
  obtain ⟨i, hi1, hi2, hl⟩ := introL_mem ts n l hl
  obtain ⟨a, b, np, ha, hb, hp, hnp, hsz, rfl⟩ := introAt_mem hl
  obtain ⟨_, e1, g1⟩ := remR_ok _ _ _ _ h1
  obtain ⟨_, e2, g2⟩ := remR_ok _ _ _ _ h2
  rw [e1, e2, part_eq hi1 (by omega)]
  have hs := split2 hi1 ha hb
  have key : exL (alsoT a np).depth (alsoT a np) = exL a.depth a ++ exL b.depth b := by
    rw [alsoT_depth]
    have hp' := hp
    unfold parB at hp'
    cases hq : a.subj with
    | none => rw [hq, hnp] at hp'; cases hp'
    | some s =>
      rw [hq, hnp] at hp'
      simp only [Bool.and_eq_true] at hp'
      have hbw := (same_iff _ _).1 hp'.2
      have hbd : b.depth = a.depth := by rw [hbw, depth_with a np s hq]
      have ga := (g1 a (List.mem_of_getElem? ha)).1
      simp only [exL, alsoT, Tree.ks]
      rw [if_neg (by omega), ← hbw, hbd]
  conv => lhs; rw [hs]
  simp only [List.nil_append, List.flatMap_append, List.flatMap_cons, List.flatMap_nil, List.append_nil, List.append_assoc]
  rw [key]
  simp

theorem intro_len {ts : List Tree} {l : List Tree} {n : Nat} (hn : n < ts.length) (hl : l ∈ introL ts n) : l.length + 1 = ts.length := by
  obtain ⟨i, hi1, hi2, hl⟩ := introL_mem ts n l hl
  obtain ⟨a, b, np, ha, hb, hp, hnp, hsz, rfl⟩ := introAt_mem hl
  rw [part_eq hi1 (by omega)]
  simp only [List.length_append, List.length_take, List.length_drop, List.length_singleton]
  omega

theorem subj_size : ∀ (t s : Tree), t.well fs0 = some sS → t.subj = some s → s.size + 2 ≤ t.size
  | .node f vs [], s, _, h => by simp [Tree.subj] at h
  | .node f vs (k :: ks), s, hw, hs => by
    rw [well_eq] at hw
    have e := subj_eq (.node f vs (k :: ks))
    rw [hs] at e
    simp only [Tree.ks, List.getElem?_cons_zero, Tree.fn, Tree.vs, Tree.size, sizes] at e hw ⊢
    cases hg : fs0[idxF fs0 f]? with
    | none => rw [hg] at hw; cases hw
    | some g =>
      rw [hg] at hw
      dsimp only at hw
      obtain ⟨⟨c1, c2, c3, c4⟩, hres⟩ := ite_some hw
      rcases Bool.eq_false_or_eq_true (frame4 f) with hf | hf
      · obtain ⟨n, v, he⟩ := fun_frame hf
        rw [he] at hg; cases hg
        simp only [hf, if_true, Option.some.injEq] at e
        subst e
        match ks, c1 with
        | [x], _ => simp only [sizes]; have := size_pos x; omega
      · rcases Bool.eq_false_or_eq_true (wrap5 f) with hw5 | hw5
        · obtain ⟨n, q, v, he⟩ := fun_wrap hw5
          rw [he] at hg; cases hg
          simp only [wells, Bool.and_eq_true, decide_eq_true_eq] at c4
          simp only [hf, hw5, Bool.false_eq_true, if_false, if_true] at e
          have := subj_size k s c4.1 e.symm
          omega
        · simp [hf, hw5] at e
theorem subj_also : ∀ (t s : Tree), t.subj = some s → s.also ≤ t.also
  | .node f vs [], s, h => by simp [Tree.subj] at h
  | .node f vs (k :: ks), s, hs => by
    have e := subj_eq (.node f vs (k :: ks))
    rw [hs] at e
    simp only [Tree.ks, List.getElem?_cons_zero, Tree.fn, Tree.also, alsos] at e ⊢
    rcases Bool.eq_false_or_eq_true (frame4 f) with hf | hf
    · simp only [hf, if_true, Option.some.injEq] at e
      subst e
      split <;> omega
    · rcases Bool.eq_false_or_eq_true (wrap5 f) with hw5 | hw5
      · simp only [hf, hw5, Bool.false_eq_true, if_false, if_true] at e
        have := subj_also k s e.symm
        split <;> omega
      · simp [hf, hw5] at e

theorem intro_sizes {ts : List Tree} {l : List Tree} {n : Nat} (hn : n < ts.length) (hw : ∀ t ∈ ts, t.well fs0 = some sS) (hl : l ∈ introL ts n) : sizes l < sizes ts ∧ alsos l ≤ alsos ts + 1 := by
  obtain ⟨i, hi1, hi2, hl⟩ := introL_mem ts n l hl
  obtain ⟨a, b, np, ha, hb, hp, hnp, hsz, rfl⟩ := introAt_mem hl
  rw [part_eq hi1 (by omega)]
  have hs := split2 hi1 ha hb
  have e1 : sizes ts = sizes (ts.take (i - 1)) + (a.size + (b.size + 0)) + sizes (ts.drop (i + 1)) := by
    conv => lhs; rw [hs]
    rw [sizes_app, sizes_app]; simp only [sizes]
  have e2 : alsos ts = alsos (ts.take (i - 1)) + (a.also + (b.also + 0)) + alsos (ts.drop (i + 1)) := by
    conv => lhs; rw [hs]
    rw [alsos_app, alsos_app]; simp only [alsos]
  have q1 := subj_size b np (hw b (List.mem_of_getElem? hb)) hnp
  have q2 := subj_also b np hnp
  rw [sizes_app, sizes_app, alsos_app, alsos_app]
  simp only [sizes, alsos, alsoT, Tree.size, Tree.also, if_true]
  omega

/-- No new tree is larger than what it came from. -/
theorem intro_bulk {ts : List Tree} {l : List Tree} {n : Nat} (hn : n < ts.length) (hl : l ∈ introL ts n) : bulks l ≤ bulks ts := by
  obtain ⟨i, hi1, hi2, hl⟩ := introL_mem ts n l hl
  obtain ⟨a, b, np, ha, hb, hp, hnp, hsz, rfl⟩ := introAt_mem hl
  rw [part_eq hi1 (by omega)]
  have hs := split2 hi1 ha hb
  have e1 : bulks ts = bulks (ts.take (i - 1)) + (a.bulk + (b.bulk + 0)) + bulks (ts.drop (i + 1)) := by
    conv => lhs; rw [hs]
    rw [bulks_app, bulks_app]; simp only [bulks]
  have q := subj_bulk b np hnp
  rw [bulks_app, bulks_app]
  simp only [bulks, alsoT, Tree.bulk, List.length_nil]
  omega
end Go.Proofs.Ytfkfcjdoebjlfaa
