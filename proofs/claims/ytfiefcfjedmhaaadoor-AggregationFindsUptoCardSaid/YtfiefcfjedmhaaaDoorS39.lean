/- Sentences with Also: what the functions of layers 32 and 39 reckon. No program. -/
import Derived.Test.YtfiefcfjedmhaaaDoorS31
namespace Go.Abs
open Go
set_option linter.unusedVariables false
set_option linter.unusedSimpArgs false

def sAssert : ByteArray := ByteArray.mk #[65, 115, 115, 101, 114, 116]
def sMust : ByteArray := ByteArray.mk #[77, 117, 115, 116]
def sMustNot : ByteArray := ByteArray.mk #[77, 117, 115, 116, 78, 111, 116]
def sMay : ByteArray := ByteArray.mk #[77, 97, 121]
def sDuring : ByteArray := ByteArray.mk #[68, 117, 114, 105, 110, 103]
def sSince : ByteArray := ByteArray.mk #[83, 105, 110, 99, 101]
def sUntil : ByteArray := ByteArray.mk #[85, 110, 116, 105, 108]
def sPlease : ByteArray := ByteArray.mk #[80, 108, 101, 97, 115, 101]
def sAlso : ByteArray := ByteArray.mk #[65, 108, 115, 111]

def frame4 (f : ByteArray) : Bool := decide (f = sAssert) || decide (f = sMust) || decide (f = sMustNot) || decide (f = sMay)
def wrap5 (f : ByteArray) : Bool := decide (f = sDuring) || decide (f = sSince) || decide (f = sUntil) || decide (f = sPlease) || decide (f = sAlso)

theorem frame_wrap {f : ByteArray} (h : frame4 f = true) : wrap5 f = false := by
  simp only [frame4, Bool.or_eq_true, decide_eq_true_eq] at h
  rcases h with ((rfl | rfl) | rfl) | rfl <;> decide

def Tree.subj : Tree → Option Tree
  | .node _ _ [] => none
  | .node f _ (k :: _) => if frame4 f then some k else if wrap5 f then k.subj else none

def Tree.withSubj : Tree → Tree → Tree
  | .node f vs [], _ => .node f vs []
  | .node f vs (k :: ks), np => .node f vs ((if wrap5 f then k.withSubj np else np) :: ks)

theorem subj_eq (t : Tree) : t.subj = (match t.ks[0]? with
    | none => none
    | some k => if frame4 t.fn then some k else if wrap5 t.fn then k.subj else none) := by
  obtain ⟨f, vs, ks⟩ := t
  cases ks with
  | nil => simp only [Tree.subj, Tree.ks, List.getElem?_nil]
  | cons k ks => simp only [Tree.subj, Tree.ks, Tree.fn, List.getElem?_cons_zero]; rfl

theorem withSubj_eq (np t k : Tree) (h : t.ks[0]? = some k) : t.withSubj np = .node t.fn t.vs ((if wrap5 t.fn then k.withSubj np else np) :: t.ks.drop 1) := by
  obtain ⟨f, vs, ks⟩ := t
  cases ks with
  | nil => simp [Tree.ks] at h
  | cons k' ks =>
    simp only [Tree.ks, List.getElem?_cons_zero, Option.some.injEq] at h
    subst h
    rfl

theorem withSubj_fn (t np : Tree) : (t.withSubj np).fn = t.fn := by
  obtain ⟨f, vs, ks⟩ := t
  cases ks <;> rfl
theorem withSubj_len (t np : Tree) : (t.withSubj np).ks.length = t.ks.length := by
  obtain ⟨f, vs, ks⟩ := t
  cases ks <;> rfl

/-- The number of Also nodes from the root on. -/
def Tree.depth : Tree → Nat
  | .node f _ [k, _] => if f = sAlso then k.depth + 1 else 0
  | _ => 0

theorem depth_zero {t : Tree} (h : t.fn ≠ sAlso ∨ t.ks.length ≠ 2) : t.depth = 0 := by
  obtain ⟨f, vs, ks⟩ := t
  match ks, h with
  | [], _ => rfl
  | [_], _ => rfl
  | [_, _], h => simp only [Tree.fn, Tree.ks, List.length_cons, List.length_nil, Nat.zero_add, Nat.reduceAdd, ne_eq, not_true_eq_false, or_false] at h; simp only [Tree.depth, if_neg h]
  | _ :: _ :: _ :: _, _ => rfl

theorem depth_kids {t : Tree} (h1 : t.fn = sAlso) (h2 : t.ks.length = 2) : ∃ k np, t.ks = [k, np] ∧ t.depth = k.depth + 1 := by
  obtain ⟨f, vs, ks⟩ := t
  match ks, h2 with
  | [k, np], _ => simp only [Tree.fn] at h1; exact ⟨k, np, rfl, by simp only [Tree.depth, if_pos h1]⟩

theorem wrap5_also : wrap5 sAlso = true := by decide
theorem frame4_also : frame4 sAlso = false := by decide

theorem subj_with : ∀ (t np s : Tree), t.subj = some s → (t.withSubj np).subj = some np
  | .node f vs [], np, s, h => by simp [Tree.subj] at h
  | .node f vs (k :: ks), np, s, h => by
    have e := subj_eq (.node f vs (k :: ks))
    rw [h] at e
    simp only [Tree.ks, List.getElem?_cons_zero, Tree.fn] at e
    have e2 := subj_eq ((Tree.node f vs (k :: ks)).withSubj np)
    rw [e2]
    simp only [Tree.withSubj, Tree.ks, List.getElem?_cons_zero, Tree.fn]
    rcases Bool.eq_false_or_eq_true (frame4 f) with hf | hf
    · have := frame_wrap hf
      simp [this, hf]
    · rcases Bool.eq_false_or_eq_true (wrap5 f) with hw | hw
      · simp only [hf, hw, Bool.false_eq_true, if_false, if_true] at e ⊢
        exact subj_with k np s e.symm
      · simp [hf, hw] at e

theorem depth_with : ∀ (t np s : Tree), t.subj = some s → (t.withSubj np).depth = t.depth
  | .node f vs [], np, s, h => rfl
  | .node f vs [k], np, s, h => rfl
  | .node f vs (_ :: _ :: _ :: _), np, s, h => rfl
  | .node f vs [k, x], np, s, h => by
    simp only [Tree.withSubj, Tree.depth]
    by_cases hf : f = sAlso
    · subst hf
      rw [if_pos rfl, if_pos rfl, wrap5_also, if_pos rfl]
      have e := subj_eq (.node sAlso vs [k, x])
      rw [h] at e
      simp only [Tree.ks, List.getElem?_cons_zero, Tree.fn, frame4_also, wrap5_also, Bool.false_eq_true, if_false, if_true] at e
      rw [depth_with k np s e.symm]
    · rw [if_neg hf, if_neg hf]

theorem bulk_with : ∀ (t np : Tree), (t.withSubj np).bulk ≤ t.bulk + np.bulk
  | .node f vs [], np => by simp only [Tree.withSubj]; omega
  | .node f vs (k :: ks), np => by
    simp only [Tree.withSubj, Tree.bulk, bulks]
    split
    · have := bulk_with k np; omega
    · omega

/-- The sentences for which a tree stands, by its depth. -/
def exL : Nat → Tree → List Tree
  | 0, t => [t]
  | d + 1, t => match t.ks with
    | [k, np] => if 256 < (exL d k).length then exL d k else exL d k ++ exL d (k.withSubj np)
    | _ => [t]

/-- How many they are. -/
def exN : Nat → Nat
  | 0 => 1
  | d + 1 => if 256 < exN d then exN d else exN d + exN d

theorem exN_le : ∀ d, exN d ≤ 512
  | 0 => by decide
  | d + 1 => by simp only [exN]; have := exN_le d; split <;> omega

theorem depth_subj_kid {t k np : Tree} (h1 : t.fn = sAlso) (hk : t.ks = [k, np]) : t.subj = k.subj := by
  rw [subj_eq, hk, h1]
  simp only [List.getElem?_cons_zero, frame4_also, wrap5_also, Bool.false_eq_true, if_false, if_true]

theorem depth_succ {t : Tree} {d : Nat} (h : t.depth = d + 1) : t.fn = sAlso ∧ ∃ k np, t.ks = [k, np] ∧ k.depth = d := by
  by_cases h1 : t.fn = sAlso
  · by_cases h2 : t.ks.length = 2
    · obtain ⟨k, np, hk, hd⟩ := depth_kids h1 h2
      exact ⟨h1, k, np, hk, by omega⟩
    · rw [depth_zero (.inr h2)] at h; cases h
  · rw [depth_zero (.inl h1)] at h; cases h

theorem exL_len : ∀ (d : Nat) (t : Tree), t.depth = d → (d = 0 ∨ t.subj.isSome = true) → (exL d t).length = exN d
  | 0, t, _, _ => rfl
  | d + 1, t, hd, hs => by
    obtain ⟨h1, k, np, hk, hkd⟩ := depth_succ hd
    have hks : k.subj.isSome = true := by
      rcases hs with hs | hs
      · cases hs
      · rwa [depth_subj_kid h1 hk] at hs
    obtain ⟨s, hsk⟩ := Option.isSome_iff_exists.1 hks
    have e1 := exL_len d k hkd (.inr hks)
    have e2 := exL_len d (k.withSubj np) (by rw [depth_with k np s hsk]; exact hkd) (.inr (by rw [subj_with k np s hsk]; rfl))
    simp only [exL, hk, exN]
    rw [e1]
    split
    · exact e1
    · rw [List.length_append, e1, e2]

theorem exL_bulk : ∀ (d : Nat) (t : Tree) (u : Tree), u ∈ exL d t → u.bulk ≤ t.bulk
  | 0, t, u, h => by simp only [exL, List.mem_singleton] at h; subst h; exact Nat.le_refl _
  | d + 1, t, u, h => by
    simp only [exL] at h
    split at h
    · rename_i k np hk
      have hb : k.bulk + np.bulk ≤ t.bulk := by rw [t.bulk_eq, hk]; simp only [bulks]; omega
      have h1 : ∀ u, u ∈ exL d k → u.bulk ≤ t.bulk := fun u hu => by have := exL_bulk d k u hu; omega
      split at h
      · exact h1 u h
      · rcases List.mem_append.1 h with h | h
        · exact h1 u h
        · have := exL_bulk d _ u h
          have := bulk_with k np
          omega
    · simp only [List.mem_singleton] at h; subst h; exact Nat.le_refl _

/-- What Remove hands back. -/
def remR : List Tree → Bool → List Tree → Option Int × List Tree
  | [], over, out => if over then (some 2, []) else (none, out)
  | t :: ts, over, out => if t.depth ≠ 0 ∧ t.subj = none then (some 6, []) else
    if 256 < (exL t.depth t).length then (some 2, []) else
    if over = true ∨ 256 < out.length + (exL t.depth t).length then remR ts true out else remR ts false (out ++ exL t.depth t)

/-- One tree alone. -/
theorem remR_one (t : Tree) : remR [t] false [] = if t.depth ≠ 0 ∧ t.subj = none then (some 6, []) else if 256 < (exL t.depth t).length then (some 2, []) else (none, exL t.depth t) := by
  simp only [remR]
  split
  · rfl
  · split
    · rfl
    · rename_i h
      simp only [List.length_nil, Nat.zero_add, Bool.false_eq_true, false_or, if_neg h, List.nil_append, if_false]

/-- Where Remove stands behind some trees without an error, and what they stand for together. -/
structure RemAt (ts : List Tree) (a : Nat) (want : List Tree) (o : Bool) (out : List Tree) : Prop where
  eq : remR ts false [] = remR (ts.drop a) o out
  no : o = false → out = want ∧ want.length ≤ 256
  yes : o = true → 256 < want.length

theorem RemAt.start (ts : List Tree) : RemAt ts 0 [] false [] := ⟨by simp, fun _ => ⟨rfl, by simp⟩, fun h => by cases h⟩

theorem RemAt.err {ts : List Tree} {a : Nat} {want : List Tree} {o : Bool} {out : List Tree} (h : RemAt ts a want o out) {t : Tree} (ht : ts[a]? = some t) {e : Int} {l : List Tree} (he : remR [t] false [] = (some e, l)) : remR ts false [] = (some e, []) := by
  rw [h.eq, drop_cons ht, remR]
  rw [remR_one] at he
  split at he
  · rename_i hb; rw [if_pos hb]; cases he; rfl
  · rename_i hb
    rw [if_neg hb]
    split at he
    · rename_i hc; rw [if_pos hc]; cases he; rfl
    · cases he

theorem RemAt.step {ts : List Tree} {a : Nat} {want : List Tree} {o : Bool} {out : List Tree} (h : RemAt ts a want o out) {t : Tree} (ht : ts[a]? = some t) {l : List Tree} (he : remR [t] false [] = (none, l)) : ∃ o' out', RemAt ts (a + 1) (want ++ l) o' out' := by
  have e := h.eq
  rw [drop_cons ht, remR] at e
  rw [remR_one] at he
  split at he
  · cases he
  · rename_i hb
    rw [if_neg hb] at e
    split at he
    · cases he
    · rename_i hc
      cases he
      rw [if_neg hc] at e
      split at e
      · rename_i ho
        refine ⟨true, out, e, (fun h => by cases h), fun _ => ?_⟩
        rw [List.length_append]
        rcases ho with ho | ho
        · have := h.yes ho; omega
        · cases o with
          | true => have := h.yes rfl; omega
          | false => have := (h.no rfl).1; subst this; exact ho
      · rename_i ho
        refine ⟨false, out ++ exL t.depth t, e, fun _ => ?_, (fun h => by cases h)⟩
        have hof : o = false := by cases o with
          | true => exact absurd (.inl rfl) ho
          | false => rfl
        have := (h.no hof).1
        subst this
        exact ⟨rfl, by rw [List.length_append]; exact Nat.le_of_not_lt fun hh => ho (.inr hh)⟩

theorem RemAt.done {ts : List Tree} {a : Nat} {want : List Tree} {o : Bool} {out : List Tree} (h : RemAt ts a want o out) (ha : ts.length ≤ a) : remR ts false [] = if 256 < want.length then (some 2, []) else (none, want) := by
  rw [h.eq, List.drop_eq_nil_of_le ha, remR]
  cases o with
  | true => rw [if_pos rfl, if_pos (h.yes rfl)]
  | false =>
    obtain ⟨rfl, h2⟩ := h.no rfl
    rw [if_neg (by decide), if_neg (by omega)]

theorem remR_len {t : Tree} {l : List Tree} (he : remR [t] false [] = (none, l)) : l.length ≤ 256 ∧ ∀ u ∈ l, u.bulk ≤ t.bulk := by
  rw [remR_one] at he
  split at he
  · cases he
  · split at he
    · cases he
    · rename_i h
      cases he
      exact ⟨by omega, fun u hu => exL_bulk _ _ u hu⟩

mutual
  /-- The number of Also nodes. -/
  def Tree.also : Tree → Nat
    | .node f _ ks => (if f = sAlso then 1 else 0) + alsos ks
  def alsos : List Tree → Nat
    | [] => 0
    | t :: ts => t.also + alsos ts
end
theorem also_eq (t : Tree) : t.also = (if t.fn = sAlso then 1 else 0) + alsos t.ks := by cases t; rfl
theorem alsos_app : ∀ (ts us : List Tree), alsos (ts ++ us) = alsos ts + alsos us
  | [], us => by simp [alsos]
  | t :: ts, us => by simp only [List.cons_append, alsos]; rw [alsos_app ts us]; omega
theorem alsos_take {ts : List Tree} {i : Nat} {t : Tree} (h : ts[i]? = some t) : alsos (ts.take (i + 1)) = alsos (ts.take i) + t.also := by
  rw [take_succ' h, alsos_app]; simp [alsos]
theorem alsos_take_le (ts : List Tree) (i : Nat) : alsos (ts.take i) ≤ alsos ts := by
  have := alsos_app (ts.take i) (ts.drop i); rw [List.take_append_drop] at this; omega
mutual
  theorem also_size : ∀ t : Tree, t.also ≤ t.size
    | .node f _ ks => by simp only [Tree.also, Tree.size]; have := alsos_sizes ks; split <;> omega
  theorem alsos_sizes : ∀ ts : List Tree, alsos ts ≤ sizes ts
    | [] => by simp [alsos, sizes]
    | t :: ts => by simp only [alsos, sizes]; have := also_size t; have := alsos_sizes ts; omega
end
end Go.Abs
