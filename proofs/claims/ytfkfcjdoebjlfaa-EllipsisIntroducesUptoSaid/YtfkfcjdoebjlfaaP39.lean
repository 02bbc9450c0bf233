/- Sentences by the table of the functions: what Also and its kin are there. -/
import Derived.Test.YtfkfcjdoebjlfaaW31c
import Derived.Test.YtfkfcjdoebjlfaaS39
namespace Go.Proofs.Ytfkfcjdoebjlfaa
open Go Go.Abs Go.Abs.Asks
set_option linter.unusedVariables false
set_option linter.unusedSimpArgs false

def sS : ByteArray := ByteArray.mk #[83]
def sNP : ByteArray := ByteArray.mk #[78, 80]
def sVP : ByteArray := ByteArray.mk #[86, 80]

def Fun.head? (g : Fun) : Option ByteArray := g.args.head?

theorem fun_also : ∃ v, fs0[idxF fs0 sAlso]? = some ⟨sAlso, [sS, sNP], sS, v⟩ := ⟨0, by kernel_rfl⟩
theorem fun_frame {f : ByteArray} (h : frame4 f = true) : ∃ n v, fs0[idxF fs0 f]? = some ⟨n, [sNP, sVP], sS, v⟩ := by
  simp only [frame4, Bool.or_eq_true, decide_eq_true_eq] at h
  rcases h with ((rfl | rfl) | rfl) | rfl
  · exact ⟨sAssert, 0, by kernel_rfl⟩
  · exact ⟨sMust, 0, by kernel_rfl⟩
  · exact ⟨sMustNot, 0, by kernel_rfl⟩
  · exact ⟨sMay, 0, by kernel_rfl⟩
theorem fun_wrap {f : ByteArray} (h : wrap5 f = true) : ∃ n q v, fs0[idxF fs0 f]? = some ⟨n, sS :: q, sS, v⟩ := by
  simp only [wrap5, Bool.or_eq_true, decide_eq_true_eq] at h
  rcases h with (((rfl | rfl) | rfl) | rfl) | rfl
  · exact ⟨sDuring, [], 2, by kernel_rfl⟩
  · exact ⟨sSince, [], 1, by kernel_rfl⟩
  · exact ⟨sUntil, [], 1, by kernel_rfl⟩
  · exact ⟨sPlease, [], 0, by kernel_rfl⟩
  · exact ⟨sAlso, [sNP], 0, by kernel_rfl⟩

theorem ite_some {α : Type} {c : Prop} {dc : Decidable c} {a b : α} (h : (if c then some a else none) = some b) : c ∧ a = b := by
  by_cases hc : c
  · rw [if_pos hc] at h; cases h; exact ⟨hc, rfl⟩
  · rw [if_neg hc] at h; cases h

/-- A well-formed sentence that is not too large. -/
def Sent (t : Tree) : Prop := t.size ≤ 60 ∧ t.well fs0 = some sS

theorem well_with : ∀ (t np s : Tree), t.well fs0 = some sS → t.subj = some s → np.well fs0 = some sNP → (t.withSubj np).well fs0 = some sS
  | .node f vs [], np, s, _, h, _ => by simp [Tree.subj] at h
  | .node f vs (k :: ks), np, s, hw, hs, hn => by
    rw [well_eq] at hw ⊢
    have e := subj_eq (.node f vs (k :: ks))
    rw [hs] at e
    simp only [Tree.ks, List.getElem?_cons_zero, Tree.fn, Tree.vs, Tree.withSubj] at e hw ⊢
    cases hg : fs0[idxF fs0 f]? with
    | none => rw [hg] at hw; cases hw
    | some g =>
      rw [hg] at hw
      dsimp only at hw ⊢
      obtain ⟨⟨c1, c2, c3, c4⟩, hres⟩ := ite_some hw
      rcases Bool.eq_false_or_eq_true (frame4 f) with hf | hf
      · obtain ⟨n, v, he⟩ := fun_frame hf
        rw [he] at hg; cases hg
        have hw5 := frame_wrap hf
        simp only [wells, Bool.and_eq_true, decide_eq_true_eq] at c4
        refine if_pos ⟨c1, c2, c3, ?_⟩
        simp only [hw5, Bool.false_eq_true, if_false, wells, hn, decide_true, Bool.true_and]
        exact c4.2
      · rcases Bool.eq_false_or_eq_true (wrap5 f) with hw5 | hw5
        · obtain ⟨n, q, v, he⟩ := fun_wrap hw5
          rw [he] at hg; cases hg
          simp only [wells, Bool.and_eq_true, decide_eq_true_eq] at c4
          simp only [hf, hw5, Bool.false_eq_true, if_false, if_true] at e
          refine if_pos ⟨c1, c2, c3, ?_⟩
          simp only [hw5, if_true, wells, well_with k np s c4.1 e.symm hn, decide_true, Bool.true_and]
          exact c4.2
        · simp [hf, hw5] at e

theorem size_with : ∀ (t np s : Tree), t.subj = some s → (t.withSubj np).size + s.size = t.size + np.size
  | .node f vs [], np, s, h => by simp [Tree.subj] at h
  | .node f vs (k :: ks), np, s, hs => by
    have e := subj_eq (.node f vs (k :: ks))
    rw [hs] at e
    simp only [Tree.ks, List.getElem?_cons_zero, Tree.fn, Tree.withSubj, Tree.size, sizes] at e ⊢
    rcases Bool.eq_false_or_eq_true (frame4 f) with hf | hf
    · have hw5 := frame_wrap hf
      simp only [hf, if_true, Option.some.injEq] at e
      subst e
      simp only [hw5, Bool.false_eq_true, if_false]
      omega
    · rcases Bool.eq_false_or_eq_true (wrap5 f) with hw5 | hw5
      · simp only [hf, hw5, Bool.false_eq_true, if_false, if_true] at e ⊢
        have := size_with k np s e.symm
        omega
      · simp [hf, hw5] at e

theorem also_kids {t : Tree} (h : t.well fs0 = some sS) (ha : t.fn = sAlso) : ∃ k np, t.ks = [k, np] ∧ k.well fs0 = some sS ∧ np.well fs0 = some sNP := by
  obtain ⟨f, vs, ks⟩ := t
  rw [well_eq] at h
  simp only [Tree.fn, Tree.ks, Tree.vs] at h ha ⊢
  subst ha
  obtain ⟨v, he⟩ := fun_also
  rw [he] at h
  dsimp only at h
  obtain ⟨⟨c1, _, _, c4⟩, _⟩ := ite_some h
  match ks, c1, c4 with
  | [k, np], _, c4 =>
    simp only [wells, Bool.and_eq_true, decide_eq_true_eq] at c4
    exact ⟨k, np, rfl, c4.1, c4.2.1⟩

theorem depth_also {t : Tree} (h : t.well fs0 = some sS) : t.depth = 0 ↔ t.fn ≠ sAlso := by
  constructor
  · intro hd ha
    obtain ⟨k, np, hk, _⟩ := also_kids h ha
    obtain ⟨k', np', _, hd'⟩ := depth_kids ha (by rw [hk]; rfl)
    omega
  · intro ha; exact depth_zero (.inl ha)

/-- What a sentence stands for are sentences without Also at their root. -/
theorem exL_sent : ∀ (d : Nat) (t : Tree), t.depth = d → Sent t → (d = 0 ∨ t.subj.isSome = true) → ∀ u ∈ exL d t, Sent u ∧ u.fn ≠ sAlso
  | 0, t, hd, hs, _, u, hu => by
    simp only [exL, List.mem_singleton] at hu
    subst hu
    exact ⟨hs, (depth_also hs.2).1 hd⟩
  | d + 1, t, hd, hs, hsub, u, hu => by
    obtain ⟨h1, k, np, hk, hkd⟩ := depth_succ hd
    obtain ⟨k', np', hk', w1, w2⟩ := also_kids hs.2 h1
    rw [hk] at hk'
    simp only [List.cons.injEq, and_true] at hk'
    obtain ⟨rfl, rfl⟩ := hk'
    have hks : k.subj.isSome = true := by
      rcases hsub with h | h
      · cases h
      · rwa [depth_subj_kid h1 hk] at h
    obtain ⟨s, hsk⟩ := Option.isSome_iff_exists.1 hks
    have hsz : t.size = 1 + (k.size + (np.size + 0)) := by rw [t.size_eq, hk]; simp only [sizes]
    have hsw := size_with k np s hsk
    have hsp := size_pos s
    have ht60 := hs.1
    have q1 : Sent k := ⟨by omega, w1⟩
    have q2 : Sent (k.withSubj np) := ⟨by omega, well_with k np s w1 hsk w2⟩
    simp only [exL, hk] at hu
    split at hu
    · exact exL_sent d k hkd q1 (.inr hks) u hu
    · rcases List.mem_append.1 hu with hu | hu
      · exact exL_sent d k hkd q1 (.inr hks) u hu
      · exact exL_sent d _ (by rw [depth_with k np s hsk]; exact hkd) q2 (.inr (by rw [subj_with k np s hsk]; rfl)) u hu

/-- What the Also nodes at the root stand above. -/
def bot : Nat → Tree → Tree
  | 0, t => t
  | j + 1, t => match t.ks[0]? with
    | some k => bot j k
    | none => t

theorem exL_head : ∀ (d : Nat) (t : Tree), t.depth = d → (exL d t)[0]? = some (bot d t)
  | 0, t, _ => rfl
  | d + 1, t, hd => by
    obtain ⟨h1, k, np, hk, hkd⟩ := depth_succ hd
    have e := exL_head d k hkd
    have hlen : 0 < (exL d k).length := by
      rcases Nat.eq_zero_or_pos (exL d k).length with h | h
      · rw [List.length_eq_zero_iff.1 h] at e; cases e
      · exact h
    simp only [exL, hk, bot, List.getElem?_cons_zero]
    split
    · exact e
    · rw [List.getElem?_append_left hlen]; exact e

theorem exN_pow : ∀ d, exN d ≤ 256 → exN d = 2 ^ d
  | 0, _ => rfl
  | d + 1, h => by
    simp only [exN] at h ⊢
    split at h
    · omega
    · rename_i hc
      rw [if_neg hc, exN_pow d (by omega), Nat.pow_succ]; omega
end Go.Proofs.Ytfkfcjdoebjlfaa
