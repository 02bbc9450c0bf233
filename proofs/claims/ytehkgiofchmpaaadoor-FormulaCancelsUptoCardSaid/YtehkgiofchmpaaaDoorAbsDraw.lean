/- Regions that draw their order. -/
import Derived.Test.YtehkgiofchmpaaaDoorAbsSwap
import Derived.OrdersIn
namespace Go.Abs
open Go
set_option linter.unusedVariables false
set_option linter.unusedSimpArgs false
set_option linter.unnecessarySimpa false

section
variable {P : Program} {g0 : G} {h0 : Gh} {w0 : World} {nt : Nat} {R : Type} {cx : Cx R}

variable (cx) in
def runL (eff : Nat → Bool) (ops : Array Oper) (k0 : St → Option R) : List Nat → St → Option R
  | [], s => k0 s
  | i :: rest, s => match ops[i]? with
    | some o => runC cx (eff i) ops o s (nrm (runL eff ops k0 rest))
    | none => none

theorem runOps_runL {eff : Nat → Bool} {ops : Array Oper} {k0 : St → Option R} : ∀ (l : List Oper) (i : Nat), l = ops.toList.drop i → ∀ s, runOpsC cx eff ops l i s (nrm k0) = runL cx eff ops k0 (List.range' i l.length) s
  | [], i, hl, s => rfl
  | o :: rest, i, hl, s => by
    have ho : ops[i]? = some o := by
      have : (ops.toList.drop i)[0]? = some o := by rw [← hl]; rfl
      simpa using this
    have hrest : rest = ops.toList.drop (i + 1) := by
      have : (ops.toList.drop i).tail = rest := by rw [← hl]; rfl
      rw [← this, List.tail_drop]
    simp only [runOpsC, List.length_cons, List.range', runL, ho]
    congr 1
    refine nrm_eq _ (fun s' => ?_) (fun e s' he => ?_)
    · exact runOps_runL rest (i + 1) hrest s'
    · cases e <;> first | exact absurd rfl he | rfl

/-! ### To the front -/
theorem front_other (hcx : Cxt P cx nt) {eff : Nat → Bool} {ops : Array Oper} {k0 : St → Option R} {r : R} {i : Nat} {o : Oper} (ho : ops[i]? = some o) (hnp : isPure (clsOp o.op) = false) : ∀ (pre post : List Nat) {s : St} {a : Act} {w : World} {h : Gh},
    SI nt g0 h0 w0 s a w h → (∀ j ∈ pre, ∀ p, ops[j]? = some p → PairC cx.hint.keep ops p o (eff j) (eff i)) → runL cx eff ops k0 (pre ++ i :: post) s = some r → runL cx eff ops k0 (i :: (pre ++ post)) s = some r
  | [], post, s, a, w, h, hsi, hp, hs => hs
  | j :: pre, post, s, a, w, h, hsi, hp, hs => by
    simp only [List.cons_append, runL] at hs ⊢
    cases hj : ops[j]? with
    | none => simp [hj] at hs
    | some p =>
      simp only [hj] at hs
      have pj := hp j (by simp) p hj
      have hej : eff j = true → isLoad (clsOp p.op) = true := fun h => by
        rcases pj.f1 h with h1 | h1
        · rw [hnp] at h1; cases h1
        · exact h1
      obtain ⟨hc1, hs⟩ := runC_some hs
      have strip : ∀ s (K : St → Option R), runG cx (eff j) ops p s (nrm K) = runG cx false ops p s (nrm K) := fun s K => by
        cases he : eff j with
        | false => rfl
        | true =>
          have hl := hej he
          obtain ⟨t, q, hq⟩ := cls_load hl
          obtain ⟨d, hd⟩ := dst_of pj.d1 (by rw [hq]; simp [clsOp]) (by rw [hq]; simp [clsOp])
          exact load_free hl hd
      rw [strip, act_run] at hs
      cases hact : actG cx ops p s with
      | none => simp [hact] at hs
      | some s1 =>
        simp only [hact] at hs
        obtain ⟨a1, w1, h1, hsi1⟩ := reached (r := r) hcx hact hsi
        have ih := front_other hcx ho hnp pre post hsi1 (fun j hj => hp j (by simp [hj])) hs
        simp only [runL, ho] at ih ⊢
        have h2 : runC cx (eff j) ops p s (nrm fun s1 => runC cx (eff i) ops o s1 (nrm (runL cx eff ops k0 (pre ++ post)))) = some r := by
          rw [runC_of hc1, strip, act_run, hact]
          exact ih
        have h3 := swap_twoC hcx pj hnp hsi h2
        simpa only [hj] using h3

theorem pure_val (hcx : Cxt P cx nt) {eff : Nat → Bool} {ops : Array Oper} {k0 : St → Option R} {r : R} {i d : Nat} {o : Oper} (ho : ops[i]? = some o) (hc : isReader (clsOp o.op) = true) (hnl : clsOp o.op ≠ .load) (hd : o.dst = some d) : ∀ (pre post : List Nat) {s : St} {a : Act} {w : World} {h : Gh},
    SI nt g0 h0 w0 s a w h → (∀ j ∈ pre, ∀ p, ops[j]? = some p → Oper.apart ops p o = true) → runL cx eff ops k0 (pre ++ i :: post) s = some r → ∃ v, valR cx.T ops o s = some v ∧ Nat.blt d cx.nt = true
  | [], post, s, a, w, h, hsi, hp, hs => by
    simp only [List.nil_append, runL, ho] at hs
    replace hs := (runC_some hs).2
    rw [reader_run hc hd] at hs
    by_cases hlt : Nat.blt d cx.nt = true
    · rw [if_pos hlt] at hs
      cases hv : valR cx.T ops o s with
      | none => rw [hv] at hs; cases hs
      | some v => exact ⟨v, rfl, hlt⟩
    · rw [if_neg hlt] at hs; cases hs
  | j :: pre, post, s, a, w, h, hsi, hp, hs => by
    classical
    simp only [List.cons_append, runL] at hs
    cases hj : ops[j]? with
    | none => simp [hj] at hs
    | some p =>
      simp only [hj] at hs
      replace hs := (runC_some hs).2
      obtain ⟨a1, a2, a3⟩ := Oper.apart_spec (hp j (by simp) p hj)
      obtain ⟨φ, ⟨p', rfl⟩, h2, h3⟩ := runG_upd (cx := cx) (eff := eff j) (s := s) (operFree_of (a3 d hd)) (fun e => a2 d e hd)
      have h3' := h3 (runL cx eff ops k0 (pre ++ i :: post)) (fun s1 => if (∀ t, p.dst ≠ some t → s1.tm t = (s.tm t).map (demP p')) then runL cx eff ops k0 (pre ++ i :: post) s1 else none)
        (fun s1 q1 _ => by rw [if_pos q1])
      simp only at h3'
      rw [h3'] at hs
      obtain ⟨s1, b1, w1, h1, hsi1, hk1⟩ := live hcx hs hsi
      split at hk1
      case isFalse => cases hk1
      rename_i hrel
      obtain ⟨v, hv, hlt⟩ := pure_val hcx ho hc hnl hd pre post hsi1 (fun j hj => hp j (by simp [hj])) hk1
      rw [valR_dem (p := p') (s := s) (fun t ht => hrel t (fun e => a1 t e ht)) (fun hl => absurd hl hnl)] at hv
      cases hvs : valR cx.T ops o s with
      | none => rw [hvs] at hv; cases hv
      | some u => exact ⟨u, rfl, hlt⟩

theorem pure_front {eff : Nat → Bool} {ops : Array Oper} {k0 : St → Option R} {i d : Nat} {o : Oper} (ho : ops[i]? = some o) (hc : isReader (clsOp o.op) = true) (hnl : clsOp o.op ≠ .load) (hd : o.dst = some d) (hlt : Nat.blt d cx.nt = true) (post : List Nat) : ∀ (pre : List Nat) {s : St} {v : AV},
    (∀ j ∈ pre, ∀ p, ops[j]? = some p → Oper.apart ops p o = true) → valR cx.T ops o s = some v → runL cx eff ops k0 (pre ++ post) (sU s d v) = runL cx eff ops k0 (pre ++ i :: post) s
  | [], s, v, hp, hv => by
    simp only [List.nil_append, runL, ho]
    rw [runC_nl (by cases h : clsOp o.op <;> first | rfl | exact absurd h hnl), reader_run hc hd, if_pos hlt, hv]
  | j :: pre, s, v, hp, hv => by
    simp only [List.cons_append, runL]
    cases hj : ops[j]? with
    | none => rfl
    | some p =>
      simp only
      obtain ⟨a1, a2, a3⟩ := Oper.apart_spec (hp j (by simp) p hj)
      obtain ⟨φ, ⟨p', rfl⟩, h2, h3⟩ := runG_upd (cx := cx) (eff := eff j) (s := s) (operFree_of (a3 d hd)) (fun e => a2 d e hd)
      have h2' := h2 v (runL cx eff ops k0 (pre ++ post))
      simp only at h2'
      have hown : ownLd p (sU s d v) = ownLd p s := ownLd_dem (p := Pz.of fun _ => false) (ops := ops) (fun t ht => by
        show upd s.tm d (some v) t = _
        rw [upd_ne (fun e => a3 d hd (by rw [← e]; exact ht))]
        cases s.tm t <;> simp [demP_none]) rfl
      by_cases hck : eff j = true → ownLd p s = true
      case neg =>
        have hck : (eff j && !ownLd p s) = true := by
          cases he : eff j <;> cases ho' : ownLd p s <;> simp_all
        unfold runC
        rw [hown, hck]
      rw [runC_of (s := sU s d v) (by rw [hown]; exact hck), runC_of hck, h2']
      refine h3 _ _ fun s1 q1 _ => ?_
      refine pure_front ho hc hnl hd hlt post pre (fun j hj => hp j (by simp [hj])) ?_
      rw [valR_dem (p := p') (s := s) (fun t ht => q1 t (fun e => a1 t e ht)) (fun hl => absurd hl hnl), hv]
      rfl

theorem front (hcx : Cxt P cx nt) {eff : Nat → Bool} {ops : Array Oper} {k0 : St → Option R} {r : R} {i : Nat} {o : Oper} (ho : ops[i]? = some o) (hdo : dstOk o = true) (pre post : List Nat) {s : St} {a : Act} {w : World} {h : Gh}
    (hsi : SI nt g0 h0 w0 s a w h) (hp : ∀ j ∈ pre, ∀ p, ops[j]? = some p → PairC cx.hint.keep ops p o (eff j) (eff i)) (hs : runL cx eff ops k0 (pre ++ i :: post) s = some r) : runL cx eff ops k0 (i :: (pre ++ post)) s = some r := by
  by_cases hpp : isPure (clsOp o.op) = true
  · have hcp : clsOp o.op = .pure := by cases h : clsOp o.op <;> rw [h] at hpp <;> simp_all [isPure]
    obtain ⟨d, hd⟩ := dst_of hdo (by rw [hcp]; simp) (by rw [hcp]; simp)
    have hc : isReader (clsOp o.op) = true := by rw [hcp]; rfl
    have hnl : clsOp o.op ≠ .load := by rw [hcp]; simp
    have hap : ∀ j ∈ pre, ∀ p, ops[j]? = some p → Oper.apart ops p o = true := fun j hj p hpj => (hp j hj p hpj).ap
    obtain ⟨v, hv, hlt⟩ := pure_val hcx ho hc hnl hd pre post hsi hap hs
    simp only [runL, ho]
    rw [runC_nl (by rw [hcp]; rfl), reader_run hc hd, if_pos hlt, hv]
    simp only
    rw [pure_front ho hc hnl hd hlt post pre hap hv]
    exact hs
  · exact front_other hcx ho (by simpa using hpp) pre post hsi hp hs

/-! ### What the check says -/
inductive Anc (ops : Array Oper) (i : Nat) : Nat → Prop
  | edge {j : Nat} {o : Oper} {e : Edge} (ho : ops[j]? = some o) (he : e ∈ o.after.toList) (hb : Region.binds .any e = true) (hi : e.on = i) : Anc ops i j
  | step {j : Nat} {o : Oper} {e : Edge} (ho : ops[j]? = some o) (he : e ∈ o.after.toList) (hb : Region.binds .any e = true) (hi : Anc ops i e.on) : Anc ops i j

def masksOf : List Oper → List Nat → List Nat
  | [], done => done
  | o :: rest, done => masksOf rest (done ++ [maskE done o.after.toList])

theorem force_eq {α : Type} (n : Nat) (f : Nat → α) : force n f = f n := by cases n <;> rfl

theorem maskGo_eq {α : Type} : ∀ (l : List Oper) (done : List Nat) (f : List Nat → α), maskGo l done f = f (masksOf l done)
  | [], done, f => rfl
  | o :: rest, done, f => by
    simp only [maskGo, masksOf]
    rw [force_eq]
    exact maskGo_eq rest _ f

theorem maskE_bit {ops : Array Oper} {done : List Nat} {i : Nat} (hd : ∀ j i, (done.getD j 0).testBit i = true → Anc ops i j) : ∀ (es : List Edge), (maskE done es).testBit i = true → ∃ e ∈ es, Region.binds .any e = true ∧ (e.on = i ∨ Anc ops i e.on)
  | [], h => by simp [maskE] at h
  | e :: es, h => by
    simp only [maskE] at h
    split at h
    · rename_i hb
      rw [Nat.testBit_or, Nat.testBit_or] at h
      simp only [Bool.or_eq_true] at h
      rcases h with h | h | h
      · obtain ⟨e', h1, h2⟩ := maskE_bit hd es h
        exact ⟨e', by simp [h1], h2⟩
      · refine ⟨e, by simp, hb, .inl ?_⟩
        rw [Nat.testBit_two_pow] at h
        simpa using h
      · exact ⟨e, by simp, hb, .inr (hd _ _ h)⟩
    · obtain ⟨e', h1, h2⟩ := maskE_bit hd es h
      exact ⟨e', by simp [h1], h2⟩

theorem masks_anc {ops : Array Oper} : ∀ (l : List Oper) (done : List Nat), l = ops.toList.drop done.length → (∀ j i, (done.getD j 0).testBit i = true → Anc ops i j) → ∀ j i, ((masksOf l done).getD j 0).testBit i = true → Anc ops i j
  | [], done, hl, hd => hd
  | o :: rest, done, hl, hd => by
    have ho : ops[done.length]? = some o := by
      have : (ops.toList.drop done.length)[0]? = some o := by rw [← hl]; rfl
      simpa using this
    have hrest : rest = ops.toList.drop (done.length + 1) := by
      have : (ops.toList.drop done.length).tail = rest := by rw [← hl]; rfl
      rw [← this, List.tail_drop]
    refine masks_anc rest _ (by simpa using hrest) ?_
    intro j i hb
    by_cases hj : j < done.length
    · refine hd j i ?_
      rw [List.getD_eq_getElem?_getD] at hb ⊢
      rwa [List.getElem?_append_left hj] at hb
    · by_cases hj2 : j = done.length
      · subst hj2
        rw [List.getD_eq_getElem?_getD, List.getElem?_append_right (Nat.le_refl _)] at hb
        simp only [Nat.sub_self, List.getElem?_cons_zero, Option.getD_some] at hb
        obtain ⟨e, h1, h2, h3⟩ := maskE_bit hd _ hb
        rcases h3 with h3 | h3
        · exact .edge ho h1 h2 h3
        · exact .step ho h1 h2 h3
      · rw [List.getD_eq_getElem?_getD, List.getElem?_eq_none (by simp; omega)] at hb
        simp at hb

theorem edgesOk_lt {ops : Array Oper} : ∀ (l : List Oper) (i : Nat), l = ops.toList.drop i → edgesOk l i = true → ∀ j o, i ≤ j → ops[j]? = some o → ∀ e ∈ o.after.toList, Region.binds .any e = true → e.on < j
  | [], i, hl, _, j, o, hij, ho => by
    have : ops.size ≤ i := by
      have := congrArg List.length hl
      simp at this; omega
    have hlt := (Array.getElem?_eq_some_iff.1 ho).1
    omega
  | o0 :: rest, i, hl, hk, j, o, hij, ho => by
    have ho0 : ops[i]? = some o0 := by
      have : (ops.toList.drop i)[0]? = some o0 := by rw [← hl]; rfl
      simpa using this
    have hrest : rest = ops.toList.drop (i + 1) := by
      have : (ops.toList.drop i).tail = rest := by rw [← hl]; rfl
      rw [← this, List.tail_drop]
    simp only [edgesOk, Bool.and_eq_true] at hk
    by_cases hj : j = i
    · subst hj
      rw [ho] at ho0; cases ho0
      intro e he hb
      have := List.all_eq_true.1 hk.1 e he
      rw [hb] at this
      simpa using this
    · exact edgesOk_lt rest (i + 1) hrest hk.2 j o (by omega) ho

theorem drawRow_get {ops : Array Oper} {o : Oper} {m : Nat} : ∀ {l : List Oper} {i : Nat}, drawRow ops o m l i = true → ∀ {j : Nat} {p : Oper}, l[j]? = some p → m.testBit (i + j) = true ∨ (swaps (clsOp p.op) (clsOp o.op) = true ∧ Oper.apart ops p o = true ∧ dstOk p = true ∧ dstOk o = true)
  | [], i, h, j, p, hj => by simp at hj
  | q :: rest, i, h, j, p, hj => by
    simp only [drawRow, Bool.and_eq_true, Bool.or_eq_true] at h
    cases j with
    | zero =>
      simp at hj; subst hj
      rcases h.1 with h1 | h1
      · exact .inl h1
      · exact .inr ⟨h1.1.1.1, h1.1.1.2, h1.1.2, h1.2⟩
    | succ j =>
      have := drawRow_get h.2 (j := j) (by simpa using hj)
      rwa [show i + 1 + j = i + (j + 1) by omega] at this

theorem drawGo_get {ops : Array Oper} {ms : List Nat} : ∀ {l done : List Oper}, drawGo ops l done ms = true → ∀ {j i : Nat} {p o : Oper}, (done ++ l)[j]? = some p → (done ++ l)[i]? = some o → j < i → done.length ≤ i →
    (ms.getD i 0).testBit j = true ∨ (swaps (clsOp p.op) (clsOp o.op) = true ∧ Oper.apart ops p o = true ∧ dstOk p = true ∧ dstOk o = true)
  | [], done, h, j, i, p, o, hj, hi, hlt, hle => by
    rw [List.append_nil, List.getElem?_eq_none hle] at hi; cases hi
  | q :: rest, done, h, j, i, p, o, hj, hi, hlt, hle => by
    simp only [drawGo, Bool.and_eq_true] at h
    by_cases he : i = done.length
    · subst he
      rw [List.getElem?_append_right (Nat.le_refl _)] at hi
      simp at hi; subst hi
      rw [List.getElem?_append_left hlt] at hj
      have := drawRow_get h.1 hj
      simpa using this
    · refine drawGo_get h.2 (j := j) (i := i) ?_ ?_ hlt (by simp; omega)
      · rw [List.append_assoc]; exact hj
      · rw [List.append_assoc]; exact hi

theorem effRow_get {keep : Bool} {eff : Nat → Bool} {ms : List Nat} {k : Nat} : ∀ {l : List Oper} {i : Nat}, effRow keep eff ms k l i = true → ∀ {j : Nat} {p : Oper}, l[j]? = some p → i + j = k ∨ (ms.getD k 0).testBit (i + j) = true ∨ (ms.getD (i + j) 0).testBit k = true ∨ isPure (clsOp p.op) = true ∨ (keep = true ∧ i + j < k ∧ eff (i + j) = true ∧ isLoad (clsOp p.op) = true)
  | [], i, h, j, p, hj => by simp at hj
  | q :: rest, i, h, j, p, hj => by
    simp only [effRow, Bool.and_eq_true, Bool.or_eq_true, Nat.beq_eq, Nat.blt_eq] at h
    cases j with
    | zero =>
      simp at hj; subst hj
      rcases h.1 with (((h1 | h1) | h1) | h1) | h1
      · exact .inl h1
      · exact .inr (.inl h1)
      · exact .inr (.inr (.inl h1))
      · exact .inr (.inr (.inr (.inl h1)))
      · exact .inr (.inr (.inr (.inr ⟨h1.1.1.1, h1.1.1.2, h1.1.2, h1.2⟩)))
    | succ j =>
      have := effRow_get h.2 (j := j) (by simpa using hj)
      rwa [show i + 1 + j = i + (j + 1) by omega] at this

/-- What is left to do. -/
def remL (n : Nat) (listed : Array Bool) : List Nat := (List.range n).filter fun i => !listed.getD i true

theorem remL_split {n i : Nat} {listed : Array Bool} (hn : i < n) (hsz : listed.size = n) (hi : listed.getD i true = false) : ∃ pre post, remL n listed = pre ++ i :: post ∧ remL n (listed.setIfInBounds i true) = pre ++ post ∧ ∀ j ∈ pre, j < i ∧ listed.getD j true = false := by
  have hr : List.range n = List.range i ++ i :: List.range' (i + 1) (n - i - 1) := by
    rw [List.range_eq_range', List.range_eq_range']
    rw [show n = i + (1 + (n - i - 1)) by omega, ← List.range'_append, ← List.range'_append]
    simp
  refine ⟨(List.range i).filter fun i => !listed.getD i true, (List.range' (i + 1) (n - i - 1)).filter fun i => !listed.getD i true, ?_, ?_, ?_⟩
  · unfold remL
    rw [hr, List.filter_append, List.filter_cons]
    simp [hi]
  · unfold remL
    rw [hr, List.filter_append, List.filter_cons]
    have hii : (listed.setIfInBounds i true).getD i true = true := by
      rw [Array.getD_eq_getD_getElem?, Array.getElem?_setIfInBounds_self_of_lt (by omega)]; rfl
    rw [hii]
    simp only [Bool.not_true, Bool.false_eq_true, if_false]
    congr 1
    · refine List.filter_congr fun j hj => ?_
      have hji : j ≠ i := by have := List.mem_range.1 hj; omega
      rw [Array.getD_eq_getD_getElem?, Array.getD_eq_getD_getElem?, Array.getElem?_setIfInBounds_ne (Ne.symm hji)]
    · refine List.filter_congr fun j hj => ?_
      have hji : j ≠ i := by have := List.mem_range'.1 hj; omega
      rw [Array.getD_eq_getD_getElem?, Array.getD_eq_getD_getElem?, Array.getElem?_setIfInBounds_ne (Ne.symm hji)]
  · intro j hj
    simp only [List.mem_filter, List.mem_range, Bool.not_eq_true'] at hj
    exact hj

def Closed (ops : Array Oper) (listed : Array Bool) : Prop := ∀ j o, ops[j]? = some o → listed.getD j false = true → ∀ e ∈ o.after.toList, Region.binds .any e = true → listed.getD e.on false = true

theorem Closed.anc {ops : Array Oper} {listed : Array Bool} (hc : Closed ops listed) {i j : Nat} (h : Anc ops i j) : listed.getD j false = true → listed.getD i false = true := by
  induction h with
  | edge ho he hb hi => intro hj; rw [← hi]; exact hc _ _ ho hj _ he hb
  | step ho he hb _ ih => intro hj; exact ih (hc _ _ ho hj _ he hb)

theorem getD_tf {listed : Array Bool} {j : Nat} (h : listed.getD j true = false) : listed.getD j false = false := by
  rw [Array.getD_eq_getD_getElem?] at h ⊢
  cases hj : listed[j]? with
  | none => rfl
  | some b => rw [hj] at h; simpa using h

theorem getD_in {listed : Array Bool} {j : Nat} (hj : j < listed.size) (h : listed.getD j true = true) : listed.getD j false = true := by
  rw [Array.getD_eq_getD_getElem?] at h ⊢
  rw [Array.getElem?_eq_getElem hj] at h ⊢
  simpa using h

theorem any_sound (hcx : Cxt P cx nt) {F : Fence} (hF : IsF F) {eff : Nat → Bool} {ops : Array Oper} {k0 : St → Option R} {r : R} {Q : Exit → Act → World → Prop} (hQ : ∀ s' a' w' h', SI nt g0 h0 w0 s' a' w' h' → k0 s' = some r → Q .normal a' w')
    (hlt : ∀ j o, ops[j]? = some o → ∀ e ∈ o.after.toList, Region.binds .any e = true → e.on < j)
    (hpair : ∀ j i p o, j < i → ops[j]? = some p → ops[i]? = some o → ¬ Anc ops j i → PairC cx.hint.keep ops p o (eff j) (eff i)) (hdst : ∀ j i o, j < i → ops[i]? = some o → ¬ Anc ops j i → dstOk o = true) :
    ∀ (fuel : Nat) (listed : Array Bool) {s : St} {a : Act} {w : World} {h : Gh}, listed.size = ops.size → Closed ops listed → (remL ops.size listed).length ≤ fuel → SI nt g0 h0 w0 s a w h → runL cx eff ops k0 (remL ops.size listed) s = some r →
      wpAnyIn F 0 P .any ops Q fuel listed a w := by
  -- nothing is ready: nothing is left
  have done : ∀ (listed : Array Bool), listed.size = ops.size → Region.ready .any ops listed = [] → remL ops.size listed = [] := by
    intro listed hsz hr
    cases hrem : remL ops.size listed with
    | nil => rfl
    | cons i rest =>
      exfalso
      have hi : i ∈ remL ops.size listed := by rw [hrem]; simp
      unfold remL at hi
      simp only [List.mem_filter, List.mem_range, Bool.not_eq_true'] at hi
      obtain ⟨hin, hil⟩ := hi
      obtain ⟨pre, post, h1, _, h3⟩ := remL_split hin hsz hil
      have hpre : pre = [] := by
        cases pre with
        | nil => rfl
        | cons j pre' =>
          rw [hrem] at h1
          have : i = j := by simpa using (List.cons.inj h1).1
          have := (h3 j (by simp)).1
          omega
      have hmem : i ∈ Region.ready .any ops listed := by
        rw [mem_ready]
        refine ⟨hil, ops[i], Array.getElem?_eq_getElem hin, ?_⟩
        intro e he hb
        have hlt' := hlt i _ (Array.getElem?_eq_getElem hin) e (by simpa using he) hb
        by_cases hu : listed.getD e.on true = true
        · exact getD_in (by omega) hu
        · exfalso
          have hu : listed.getD e.on true = false := by simpa using hu
          have hmem : e.on ∈ remL ops.size listed := by
            unfold remL
            simp only [List.mem_filter, List.mem_range, Bool.not_eq_true']
            exact ⟨by omega, hu⟩
          rw [h1, hpre] at hmem
          simp only [List.nil_append, List.mem_cons] at hmem
          rcases hmem with hmem | hmem
          · omega
          · -- behind i all are larger
            have hpost : ∀ j ∈ remL ops.size listed, i ≤ j := by
              intro j hj
              unfold remL at hj hrem
              have hs : List.Pairwise (· < ·) ((List.range ops.size).filter fun i => !listed.getD i true) := List.Pairwise.filter _ List.pairwise_lt_range
              rw [hrem] at hs hj
              rcases List.mem_cons.1 hj with rfl | hj
              · exact Nat.le_refl _
              · exact Nat.le_of_lt (List.rel_of_pairwise_cons hs hj)
            have := hpost e.on (by rw [h1, hpre]; simp [hmem])
            omega
      rw [hr] at hmem
      cases hmem
  intro fuel
  induction fuel with
  | zero =>
    intro listed s a w h hsz hc hlen hsi hs
    have hrem : remL ops.size listed = [] := List.length_eq_zero_iff.1 (by omega)
    rw [hrem] at hs
    refine ⟨?_, hQ s a w h hsi hs⟩
    rw [List.eq_nil_iff_forall_not_mem]
    intro i hi
    obtain ⟨h1, o, ho, _⟩ := mem_ready.1 hi
    have : i ∈ remL ops.size listed := by
      unfold remL
      simp only [List.mem_filter, List.mem_range, Bool.not_eq_true']
      exact ⟨(Array.getElem?_eq_some_iff.1 ho).1, h1⟩
    rw [hrem] at this; cases this
  | succ fuel ih =>
    intro listed s a w h hsz hc hlen hsi hs
    refine ⟨fun hr => ?_, fun i hi => ?_⟩
    · rw [done listed hsz hr] at hs
      exact hQ s a w h hsi hs
    · obtain ⟨hil, o, ho, hall⟩ := mem_ready.1 hi
      have hin := (Array.getElem?_eq_some_iff.1 ho).1
      obtain ⟨pre, post, h1, h2, h3⟩ := remL_split hin hsz hil
      rw [h1] at hs
      have hnanc : ∀ j, listed.getD j true = false → ¬ Anc ops j i := by
        intro j hj hanc
        have hjf := getD_tf hj
        cases hanc with
        | edge ho' he hb hi' =>
          rw [ho] at ho'; cases ho'
          have := hall _ (by simpa using he) hb
          rw [hi', hjf] at this; cases this
        | step ho' he hb hi' =>
          rw [ho] at ho'; cases ho'
          have := hc.anc hi' (hall _ (by simpa using he) hb)
          rw [hjf] at this; cases this
      have hfr : runL cx eff ops k0 (i :: (pre ++ post)) s = some r := by
        cases hpre : pre with
        | nil => rw [hpre] at hs; exact hs
        | cons j0 pre0 =>
          rw [← hpre]
          have hj0 := h3 j0 (by rw [hpre]; simp)
          exact front hcx ho (hdst j0 i o hj0.1 ho (hnanc j0 hj0.2)) pre post hsi (fun j hj p hpj => hpair j i p o (h3 j hj).1 hpj ho (hnanc j (h3 j hj).2)) hs
      simp only [runL, ho] at hfr
      replace hfr := (runC_some hfr).2
      have hkey := runG_sound hcx.T hcx.nt hcx.C hcx.E hF hfr hsi (next := wpAnyIn F 0 P .any ops Q fuel (listed.setIfInBounds i true)) (Q := Q)
        ⟨fun s' a' w' h' hsi' hk => by
          refine ih (listed.setIfInBounds i true) (by simpa using hsz) ?_ ?_ hsi' (by rw [h2]; exact hk)
          · intro j o' ho' hj e he hb
            by_cases hji : j = i
            · subst hji
              rw [ho] at ho'; cases ho'
              have := hall e (by simpa using he) hb
              have hne : e.on ≠ j := by have := hlt j o ho e he hb; omega
              rw [Array.getD_eq_getD_getElem?] at this ⊢
              rw [Array.getElem?_setIfInBounds_ne (Ne.symm hne)]; exact this
            · have hj' : listed.getD j false = true := by
                rw [Array.getD_eq_getD_getElem?] at hj ⊢
                rw [Array.getElem?_setIfInBounds_ne (Ne.symm hji)] at hj; exact hj
              have := hc j o' ho' hj' e he hb
              by_cases hei : e.on = i
              · rw [hei, Array.getD_eq_getD_getElem?, Array.getElem?_setIfInBounds_self_of_lt (by omega)]; rfl
              · rw [Array.getD_eq_getD_getElem?] at this ⊢
                rw [Array.getElem?_setIfInBounds_ne (Ne.symm hei)]; exact this
          · rw [h2]
            rw [h1] at hlen
            simp at hlen ⊢
            omega, fun x s' a' w' h' v _ _ hk => by simp [nrm] at hk⟩
      unfold wpOpIn
      simp only [ho]
      exact hkey

theorem SI.drew {s : St} {a : Act} {w : World} {h : Gh} (hsi : SI nt g0 h0 w0 s a w h) : SI nt g0 h0 w0 s a w.drew h := by
  have hb := below_drew w w.heap.size
  refine ⟨⟨hsi.fi.size, hsi.fi.tm_grow hb (fun _ _ => rfl) (fun _ _ _ => rfl) (fun _ _ => rfl) (fun _ _ => rfl), ?_, dfr_grow hsi.fi.dfr hb⟩, ?_, hsi.dp, hsi.lps, hsi.nd, hsi.dnew, hsi.lpd, hsi.bxd⟩
  · exact hsi.fi.gi.grow hb (fun _ _ => rfl) hsi.fi.gi.lim (fun _ _ _ => rfl) (fun _ _ => rfl) (fun _ _ => rfl) hsi.fi.gi.gaBx hsi.fi.gi.gaInj hsi.fi.gi.gaC hsi.fi.gi.gaTop
  · exact hsi.rel.grow hsi.fi.gi hb (fun _ _ => rfl) (fun _ _ _ h => ⟨h, rfl⟩) (fun _ _ => rfl) (fun _ _ _ _ => rfl) (fun d t b h1 h2 => .inr ⟨d, t, h1, h2⟩) (fun _ _ h => .inr h) (fun l hl => .inr ⟨hl, rfl⟩) (Nat.le_refl _)

theorem draw_sound (hmix : P.follows .mixedOrders = true) (hT : TyOk P cx.T) (hnt : cx.nt = nt) (hC : CSound P cx.C) (hE : ESound P cx.E) {F : Fence} (hF : IsF F) {id : Nat} {ops : Array Oper} {k : Ex → St → Option R} {r : R} {s : St}
    (hok : regionOk cx.hint.keep (cx.hint.eff id) ops = true) (hs : runOpsC cx (cx.hint.eff id) ops ops.toList 0 s (fun e s => match e with
      | .normal => k .normal s
      | _ => none) = some r) {Q : Exit → Act → World → Prop} (hk : NextOk k r nt g0 h0 w0 (Q .normal) Q) {a : Act} {w : World} {h : Gh} (hsi : SI nt g0 h0 w0 s a w h) :
    (Code.region id ops true).wpIn F 0 P Q a w := by
  unfold regionOk at hok
  rw [maskGo_eq] at hok
  simp only [Bool.and_eq_true] at hok
  obtain ⟨he, hg, hf⟩ := hok
  have hlt : ∀ j o, ops[j]? = some o → ∀ e ∈ o.after.toList, Region.binds .any e = true → e.on < j := fun j o ho => edgesOk_lt ops.toList 0 rfl he j o (Nat.zero_le _) ho
  have hanc : ∀ j i, ((masksOf ops.toList []).getD j 0).testBit i = true → Anc ops i j := masks_anc ops.toList [] rfl (by intro j i h; simp at h)
  have ancLt : ∀ i j, Anc ops i j → i < j := by
    intro i j h
    induction h with
    | edge ho he hb hi => rw [← hi]; exact hlt _ _ ho _ he hb
    | step ho he hb _ ih => exact Nat.lt_trans ih (hlt _ _ ho _ he hb)
  have hrow : ∀ j i p o, j < i → ops[j]? = some p → ops[i]? = some o → ¬ Anc ops j i → swaps (clsOp p.op) (clsOp o.op) = true ∧ Oper.apart ops p o = true ∧ dstOk p = true ∧ dstOk o = true := by
    intro j i p o hji hj hi hna
    rcases drawGo_get hg (j := j) (i := i) (p := p) (o := o) (by simpa using hj) (by simpa using hi) hji (Nat.zero_le _) with h | h
    · exact absurd (hanc _ _ h) hna
    · exact h
  have heff : ∀ k i p o, cx.hint.eff id k = true → ops[k]? = some o → isLoad (clsOp o.op) = false → ops[i]? = some p → i = k ∨ Anc ops i k ∨ Anc ops k i ∨ isPure (clsOp p.op) = true ∨ (cx.hint.keep = true ∧ (goCall o.op).isSome = true ∧ i < k ∧ cx.hint.eff id i = true ∧ isLoad (clsOp p.op) = true) := by
    intro k i p o hk ho hno hp
    have hks := (Array.getElem?_eq_some_iff.1 ho).1
    have := List.all_eq_true.1 hf k (List.mem_range.2 hks)
    rw [hk] at this
    simp only [Bool.not_true, Bool.false_or, isLoadAt, ho, hno] at this
    have h := effRow_get this (j := i) (p := p) (by simpa using hp)
    rw [Nat.zero_add] at h
    simp only [isCallAt, ho, Bool.and_eq_true] at h
    rcases h with h | h | h | h | h
    · exact .inl h
    · exact .inr (.inl (hanc _ _ h))
    · exact .inr (.inr (.inl (hanc _ _ h)))
    · exact .inr (.inr (.inr (.inl h)))
    · exact .inr (.inr (.inr (.inr ⟨h.1.1, h.1.2, h.2⟩)))
  refine wpIn_region_any hmix ?_
  have hwd : ({ w with drawn := w.drawn + 1 } : World) = w.drew := rfl
  rw [hwd]
  have hrem : remL ops.size (Array.replicate ops.size false) = List.range ops.size := by
    unfold remL
    rw [List.filter_eq_self]
    intro i hi
    rw [Array.getD_eq_getD_getElem?, Array.getElem?_replicate, if_pos (List.mem_range.1 hi)]
    rfl
  have hs' : runOpsC cx (cx.hint.eff id) ops ops.toList 0 s (nrm fun s => k .normal s) = some r := by
    rw [← hs]
    congr 1
  refine any_sound ⟨hT, hnt, hC, hE⟩ hF (eff := cx.hint.eff id) (k0 := fun s => k .normal s) (fun s' a' w' h' hsi' hk' => hk.1 s' a' w' h' hsi' hk') hlt ?_ (fun j i o hji hi hna => ?_) ops.size _ (by simp) ?_ ?_ hsi.drew ?_
  · intro j i p o hji hj hi hna
    obtain ⟨r1, r2, r3, r4⟩ := hrow j i p o hji hj hi hna
    refine ⟨r1, r2, r3, r4, fun he1 => ?_, fun he2 => ?_⟩
    · cases hl : isLoad (clsOp p.op) with
      | true => exact .inr rfl
      | false =>
        rcases heff j i o p he1 hj hl hi with h | h | h | h | h
        · omega
        · have := ancLt _ _ h; omega
        · exact absurd h hna
        · exact .inl h
        · omega
    · cases hl : isLoad (clsOp o.op) with
      | true => exact .inr (.inl rfl)
      | false =>
        rcases heff i j p o he2 hi hl hj with h | h | h | h | h
        · omega
        · exact absurd h hna
        · have := ancLt _ _ h; omega
        · exact .inl h
        · exact .inr (.inr ⟨h.1, h.2.1, h.2.2.2.1, h.2.2.2.2⟩)
  · have hjs : j < ops.size := Nat.lt_trans hji (Array.getElem?_eq_some_iff.1 hi).1
    exact (hrow j i ops[j] o hji (Array.getElem?_eq_getElem hjs) hi hna).2.2.2
  · intro j o ho hj
    rw [Array.getD_eq_getD_getElem?, Array.getElem?_replicate] at hj
    split at hj <;> simp at hj
  · rw [hrem]; simp
  · rw [hrem, List.range_eq_range']
    have := runOps_runL (cx := cx) (eff := cx.hint.eff id) (ops := ops) (k0 := fun s => k .normal s) ops.toList 0 rfl s
    rw [Array.length_toList] at this
    rw [← this]; exact hs'
end
end Go.Abs
