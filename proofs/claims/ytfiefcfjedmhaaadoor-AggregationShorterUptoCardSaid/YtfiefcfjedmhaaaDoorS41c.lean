/- How many parts a merged sentence has, in plain terms. No program. -/
import Derived.Test.YtfiefcfjedmhaaaDoorS41
namespace Go.Abs
open Go
set_option linter.unusedVariables false
set_option linter.unusedSimpArgs false

def cnt (t : Tree) : Nat := (splitT t).length
theorem cnt_pos (t : Tree) : 1 ≤ cnt t := (split_len t.size t (Nat.le_refl _)).2.2
theorem cnt_two {t a b : Tree} (h : twoT t = some (a, b)) : cnt t = cnt a + cnt b := by
  unfold cnt; rw [splitT_two h, List.length_append]
theorem cnt_wrap {t k : Tree} (h : twoT t = none) (hw : wrapT t = some k) : cnt t = cnt k := by
  unfold cnt; rw [splitT_wrap h hw, List.length_map]
theorem cnt_one {t : Tree} (h : twoT t = none) (hw : wrapT t = none) : cnt t = 1 := by
  unfold cnt; rw [splitT_one h hw]; rfl

theorem frameT_same {t u : Tree} (h1 : t.fn = u.fn) (h2 : t.ks = u.ks) : frameT t = frameT u := by
  unfold frameT; rw [h1, h2]
theorem wrapT_same {t u : Tree} (h1 : t.fn = u.fn) (h2 : t.ks = u.ks) : wrapT t = wrapT u := by
  unfold wrapT; rw [h1, h2]
theorem twoT_same {t u a b : Tree} (h1 : t.fn = u.fn) (h2 : t.ks = u.ks) (h : twoT t = some (a, b)) : ∃ a' b', twoT u = some (a', b') ∧ a.fn = a'.fn ∧ a.ks = a'.ks ∧ b.fn = b'.fn ∧ b.ks = b'.ks := by
  obtain ⟨s, p, hf, hh⟩ := twoT_some h
  have hf' := hf
  rw [frameT_same h1 h2] at hf'
  rcases hh with ⟨e, x, y, hk, rfl, rfl⟩ | ⟨e0, e1, e2, e3, x, y, hk, rfl, rfl⟩
  · exact ⟨_, _, twoT_both hf' e hk, h1, rfl, h1, rfl⟩
  · exact ⟨_, _, twoT_and hf' e0 (by rw [← h1]; exact e1) e2 e3 hk, h1, rfl, h1, rfl⟩

/-- The values are not looked at. -/
theorem cnt_same : ∀ (n : Nat) (t u : Tree), t.size ≤ n → t.fn = u.fn → t.ks = u.ks → cnt t = cnt u
  | 0, t, u, h, _, _ => by have := size_pos t; omega
  | n + 1, t, u, h, h1, h2 => by
    cases ht : twoT t with
    | some q =>
      obtain ⟨a, b⟩ := q
      obtain ⟨l1, l2, _, _⟩ := two_less ht
      obtain ⟨a', b', hu, e1, e2, e3, e4⟩ := twoT_same h1 h2 ht
      rw [cnt_two ht, cnt_two hu, cnt_same n a a' (by omega) e1 e2, cnt_same n b b' (by omega) e3 e4]
    | none =>
      have hu : twoT u = none := by
        cases hu : twoT u with
        | none => rfl
        | some q =>
          obtain ⟨a, b⟩ := q
          obtain ⟨a', b', hh, _⟩ := twoT_same h1.symm h2.symm hu
          rw [ht] at hh; cases hh
      cases hw : wrapT t with
      | some k => rw [cnt_wrap ht hw, cnt_wrap hu (by rw [← wrapT_same h1 h2]; exact hw)]
      | none => rw [cnt_one ht hw, cnt_one hu (by rw [← wrapT_same h1 h2]; exact hw)]

def frm (f : ByteArray) (s p : Tree) : Tree := .node f [] [s, p]
theorem frm_frame {f : ByteArray} (h : frame4 f = true) (s p : Tree) : frameT (frm f s p) = some (s, p) := frameT_of h rfl
theorem frm_wrap {f : ByteArray} (h : frame4 f = true) (s p : Tree) : wrapT (frm f s p) = none := wrapT_none (.inl (frame_wrap4 h))
theorem cnt_frm {t s p : Tree} (h : frameT t = some (s, p)) : cnt t = cnt (frm t.fn s p) := cnt_same t.size t _ (Nat.le_refl _) rfl (frameT_some h).2
theorem cnt_bothF {f : ByteArray} (h : frame4 f = true) {s p x y : Tree} (h1 : s.fn = sBoth) (h2 : s.ks = [x, y]) : cnt (frm f s p) = cnt (frm f x p) + cnt (frm f y p) :=
  cnt_two (twoT_both (frm_frame h s p) h1 h2)

theorem cnt_andF {f : ByteArray} (h : frame4 f = true) : ∀ (n : Nat) (s p y : Tree), s.size ≤ n → cnt (frm f s (.node sAndVP [] [p, y])) ≤ cnt (frm f s p) + cnt (frm f s y)
  | 0, s, p, y, hn => by have := size_pos s; omega
  | n + 1, s, p, y, hn => by
    by_cases h0 : s.fn = sBoth ∧ s.ks.length = 2
    · obtain ⟨a, b, hab⟩ := two_of h0.2
      have e := size_two hab
      rw [cnt_bothF h h0.1 hab, cnt_bothF h h0.1 hab, cnt_bothF h h0.1 hab]
      have q1 := cnt_andF h n a p y (by omega)
      have q2 := cnt_andF h n b p y (by omega)
      omega
    · have p1 := cnt_pos (frm f s p)
      have p2 := cnt_pos (frm f s y)
      by_cases h1 : plainF f = true ∧ s.fn = sName
      · have e := cnt_two (twoT_and (frm_frame h s (.node sAndVP [] [p, y])) h0 h1.1 h1.2 rfl rfl)
        rw [e]
        exact Nat.le_refl _
      · have e : twoT (frm f s (.node sAndVP [] [p, y])) = none := twoT_none (by
          intro s' p' e
          rw [frm_frame h] at e
          cases e
          exact ⟨h0, fun hh => h1 ⟨hh.1, hh.2.1⟩⟩)
        rw [cnt_one e (frm_wrap h _ _)]
        omega

theorem join_mem {f : ByteArray} {s p x y m : Tree} (h : m ∈ joinF f s p x y) : (p = y ∧ m = frm f (.node sBoth [] [s, x]) p) ∨ (s = x ∧ m = frm f s (.node sAndVP [] [p, y])) := by
  unfold joinF at h
  rcases List.mem_append.1 h with h | h
  · split at h
    · rename_i e; simp at h; exact .inl ⟨e, h⟩
    · cases h
  · split at h
    · rename_i e; simp at h; exact .inr ⟨e, h⟩
    · cases h

theorem merge_cnt : ∀ (n : Nat) (t u : Tree), t.size ≤ n → ∀ m ∈ mergeT t u, cnt m ≤ cnt t + cnt u ∧ m.size ≤ t.size + u.size
  | 0, t, u, h => by have := size_pos t; omega
  | n + 1, t, u, h => by
    intro m hm
    by_cases hfn : t.fn = u.fn
    · cases ht : frameT t with
      | some q =>
        obtain ⟨s, p⟩ := q
        obtain ⟨f1, f2⟩ := frameT_some ht
        cases hu : frameT u with
        | some q =>
          obtain ⟨x, y⟩ := q
          obtain ⟨g1, g2⟩ := frameT_some hu
          rw [merge_frame hfn ht hu] at hm
          have s1 := size_two f2
          have s2 := size_two g2
          have c1 := cnt_frm ht
          have c2 := cnt_frm hu
          rw [← hfn] at c2
          rcases join_mem hm with ⟨e, rfl⟩ | ⟨e, rfl⟩
          · subst e
            have := cnt_bothF f1 (s := .node sBoth [] [s, x]) (p := p) (x := s) (y := x) rfl rfl
            refine ⟨by omega, ?_⟩
            unfold frm
            rw [size_node, sizes_two, size_node, sizes_two]; omega
          · subst e
            have := cnt_andF f1 s.size s p y (Nat.le_refl _)
            refine ⟨by omega, ?_⟩
            unfold frm
            rw [size_node, sizes_two, size_node, sizes_two]; omega
        | none =>
          rw [merge_none (.inr hu) (.inl (wrapT_none (.inl (frame_wrap4 f1))))] at hm
          cases hm
      | none =>
        cases hw : wrapT t with
        | none => rw [merge_none (.inl ht) (.inl hw)] at hm; cases hm
        | some k =>
          obtain ⟨w1, w2⟩ := wrapT_some hw
          cases hv : wrapT u with
          | none => rw [merge_none (.inl ht) (.inr hv)] at hm; cases hm
          | some l =>
            obtain ⟨v1, v2⟩ := wrapT_some hv
            rw [merge_wrap hfn hw hv] at hm
            split at hm
            · obtain ⟨m', hm', rfl⟩ := List.mem_map.1 hm
              have e1 := size_one w2
              have e2 := size_one v2
              obtain ⟨q1, q2⟩ := merge_cnt n k l (by omega) m' hm'
              have tn : ∀ {t k : Tree}, wrapT t = some k → twoT t = none := fun {t k} hw => twoT_none (by
                intro s p e
                obtain ⟨_, h2⟩ := frameT_some e
                obtain ⟨_, h3⟩ := wrapT_some hw
                rw [h3] at h2; simp at h2)
              have c0 : cnt (wrapN t m') = cnt m' := cnt_wrap (wrapN_two t m') (wrapN_wrap w1)
              have c1 := cnt_wrap (tn hw) hw
              have c2 := cnt_wrap (tn hv) hv
              refine ⟨by show cnt (wrapN t m') ≤ _; omega, ?_⟩
              rw [size_node, sizes_one]; omega
            · cases hm
    · rw [merge_ne hfn] at hm; cases hm

def cnts : List Tree → Nat
  | [] => 0
  | t :: ts => cnt t + cnts ts
theorem cnts_app : ∀ (a b : List Tree), cnts (a ++ b) = cnts a + cnts b
  | [], b => by simp [cnts]
  | t :: a, b => by simp only [List.cons_append, cnts, cnts_app a b]; omega
theorem cnts_take (ts : List Tree) (i : Nat) (t : Tree) (h : ts[i]? = some t) : cnts (ts.take (i + 1)) = cnts (ts.take i) + cnt t := by
  rw [take_succ' h, cnts_app]; simp [cnts]

theorem moveAt_cnt {ts l : List Tree} {i : Nat} (h : l ∈ moveAt ts i) : cnts l ≤ cnts ts ∧ ∀ m ∈ l, m ∈ ts ∨ ∃ a b, a ∈ ts ∧ b ∈ ts ∧ m.size ≤ a.size + b.size := by
  unfold moveAt at h
  split at h
  · rename_i a b ha hb
    obtain ⟨m, hm, rfl⟩ := List.mem_map.1 h
    obtain ⟨q1, q2⟩ := merge_cnt a.size a b (Nat.le_refl _) m hm
    have e2 : ts = ts.take i ++ (a :: b :: ts.drop (i + 2)) := by
      conv => lhs; rw [← List.take_append_drop i ts, drop_cons ha, drop_cons hb]
    have e3 : cnts ts = cnts (ts.take i) + (cnt a + (cnt b + cnts (ts.drop (i + 2)))) := by
      conv => lhs; rw [e2]
      rw [cnts_app]; simp only [cnts]
    refine ⟨?_, fun x hx => ?_⟩
    · rw [cnts_app, cnts_app, e3]; simp only [cnts]; omega
    · rcases List.mem_append.1 hx with hx | hx
      · rcases List.mem_append.1 hx with hx | hx
        · exact .inl (List.mem_of_mem_take hx)
        · simp at hx; subst hx
          exact .inr ⟨a, b, List.mem_of_getElem? ha, List.mem_of_getElem? hb, q2⟩
      · exact .inl (List.mem_of_mem_drop hx)
  · cases h
end Go.Abs
