/- Boxes as tables: what a walk leaves behind, written out again. Loops that keep what the boxes of other frames hold. -/
import Derived.Test.YtfiefcfjedmhaaaDoorAbsE
namespace Go.Abs
open Go Asks
set_option linter.unusedVariables false
set_option linter.unusedSimpArgs false
set_option linter.unusedSectionVars false

def tabB : List ((Nat × Nat) × Box) → Nat → Nat → Option Box
  | [], _, _ => none
  | e :: r, d, t => match Nat.beq d e.1.1 && Nat.beq t e.1.2 with
    | true => some e.2
    | false => tabB r d t

def offB (ks : List (Nat × Nat)) (d t : Nat) : Prop := ∀ k ∈ ks, ¬ (d = k.1 ∧ t = k.2)
def BSup (f : Nat → Nat → Option Box) (ks : List (Nat × Nat)) : Prop := ∀ d t, offB ks d t → f d t = none

theorem offB.tail {k : Nat × Nat} {ks : List (Nat × Nat)} {d t : Nat} (h : offB (k :: ks) d t) : offB ks d t := fun x hx => h x (List.mem_cons_of_mem _ hx)
theorem offB.left {ks ls : List (Nat × Nat)} {d t : Nat} (h : offB (ks ++ ls) d t) : offB ks d t := fun x hx => h x (List.mem_append_left _ hx)
theorem offB.right {ks ls : List (Nat × Nat)} {d t : Nat} (h : offB (ks ++ ls) d t) : offB ls d t := fun x hx => h x (List.mem_append_right _ hx)

theorem BSup.tab : ∀ (l : List ((Nat × Nat) × Box)), BSup (tabB l) (l.map (·.1))
  | [], d, t, _ => rfl
  | e :: r, d, t, h => by
    simp only [tabB]
    cases hc : Nat.beq d e.1.1 && Nat.beq t e.1.2 with
    | true =>
      simp only [Bool.and_eq_true] at hc
      exact absurd ⟨Nat.eq_of_beq_eq_true hc.1, Nat.eq_of_beq_eq_true hc.2⟩ (h e.1 (by simp))
    | false => exact BSup.tab r d t h.tail
theorem BSup.g0 : BSup G0.bx [] := fun _ _ _ => rfl
theorem BSup.dem {f : Nat → Nat → Option Box} {ks : List (Nat × Nat)} {i : Id} (h : BSup f ks) : BSup (demBx i f) ks := fun d t ho => by
  unfold demBx; rw [h d t ho]
theorem BSup.set {f : Nat → Nat → Option Box} {ks : List (Nat × Nat)} {a b : Nat} {x : Option Box} (h : BSup f ks) : BSup (fun d t => if Nat.beq d a && Nat.beq t b then x else f d t) ((a, b) :: ks) := fun d t ho => by
  dsimp only
  rw [if_neg]
  · exact h d t ho.tail
  · intro hc
    simp only [Bool.and_eq_true] at hc
    exact ho (a, b) (by simp) ⟨Nat.eq_of_beq_eq_true hc.1, Nat.eq_of_beq_eq_true hc.2⟩
theorem BSup.pop {f : Nat → Nat → Option Box} {ks : List (Nat × Nat)} {a : Nat} (h : BSup f ks) : BSup (fun d t => if Nat.beq d a then none else f d t) ks := fun d t ho => by
  dsimp only
  split
  · rfl
  · exact h d t ho
theorem BSup.un {g g' : G} {ks ls : List (Nat × Nat)} (h : BSup g.bx ks) (h' : BSup g'.bx ls) : BSup (unG g g').bx (ks ++ ls) := fun d t ho => by
  show (if Nat.beq d g.dp then _ else _) = none
  split
  · rw [h d t ho.left]
  · exact h' d t ho.right
theorem BSup.hid {g : G} {ks : List (Nat × Nat)} (h : BSup g.bx ks) : BSup (hidG g).bx ks := BSup.pop h
theorem BSup.popG {g : G} {dp : Nat} {ks : List (Nat × Nat)} (h : BSup g.bx ks) : BSup (popG g dp).bx ks := BSup.pop h
theorem BSup.lz {β : Type} {kb : List (Nat × β)} {bv : List (Option Box)} {f : Nat → Nat → Option Box} {dp : Nat} {ks : List (Nat × Nat)} (hs : BSup f ks) : BSup (fun d t => match Nat.beq d dp with
    | true => lookZ kb bv t
    | false => f d t) (kb.map (fun q => (dp, q.1)) ++ ks) := fun d t ho => by
  dsimp only
  cases hd : Nat.beq d dp with
  | false => exact hs d t ho.right
  | true =>
    have hd := Nat.eq_of_beq_eq_true hd
    subst hd
    have ho := ho.left
    dsimp only
    have : ∀ (kb : List (Nat × β)) (bv : List (Option Box)), offB (kb.map fun q => (d, q.1)) d t → lookZ kb bv t = none := by
      intro kb
      induction kb with
      | nil => intro bv _; rfl
      | cons q kb ih =>
        intro bv ho
        cases bv with
        | nil => rfl
        | cons v bv =>
          simp only [lookZ]
          cases hq : Nat.beq t q.1 with
          | true => exact absurd ⟨rfl, Nat.eq_of_beq_eq_true hq⟩ (ho (d, q.1) (by simp))
          | false => exact ih bv ho.tail
    exact this kb bv ho

/-- A table that reads so at its own keys, and at the keys of what is read. -/
theorem tab_eq {f : Nat → Nat → Option Box} {ks : List (Nat × Nat)} {l : List ((Nat × Nat) × Box)} (hs : BSup f ks) (h : (ks ++ l.map (·.1)).map (fun k => f k.1 k.2) = (ks ++ l.map (·.1)).map (fun k => tabB l k.1 k.2)) : f = tabB l := by
  funext d t
  by_cases hin : ∃ k ∈ ks ++ l.map (·.1), d = k.1 ∧ t = k.2
  · obtain ⟨k, hk, rfl, rfl⟩ := hin
    have := List.map_inj_left.1 h k hk
    exact this
  · have ho : offB (ks ++ l.map (·.1)) d t := fun k hk e => hin ⟨k, hk, e⟩
    rw [hs d t ho.left, BSup.tab l d t ho.right]

/-! Temporaries as tables. -/
def tabT : List (Nat × AV) → Nat → Option AV
  | [], _ => none
  | e :: r, t => match Nat.beq t e.1 with
    | true => some e.2
    | false => tabT r t
def TSup (f : Nat → Option AV) (ks : List Nat) : Prop := ∀ t, t ∉ ks → f t = none
theorem TSup.tab : ∀ (l : List (Nat × AV)), TSup (tabT l) (l.map (·.1))
  | [], t, _ => rfl
  | e :: r, t, h => by
    simp only [tabT]
    cases hc : Nat.beq t e.1 with
    | true => exact absurd (by simp [Nat.eq_of_beq_eq_true hc]) h
    | false => exact TSup.tab r t (fun hh => h (by simp [hh]))
theorem TSup.none : TSup (fun _ => none) [] := fun _ _ => rfl
theorem TSup.upd {f : Nat → Option AV} {ks : List Nat} {a : Nat} {x : Option AV} (h : TSup f ks) : TSup (updQ f a x) (a :: ks) := fun t ht => by
  unfold updQ
  cases hc : Nat.beq t a with
  | true => exact absurd (by simp [Nat.eq_of_beq_eq_true hc]) ht
  | false => exact h t (fun hh => ht (by simp [hh]))
theorem TSup.dem {f : Nat → Option AV} {ks : List Nat} {i : Id} (h : TSup f ks) : TSup (demTm i f) ks := fun t ht => by
  unfold demTm; rw [h t ht]
theorem TSup.map {f : Nat → Option AV} {ks : List Nat} {m : AV → AV} (h : TSup f ks) : TSup (mapTm m f) ks := fun t ht => by
  unfold mapTm; rw [h t ht]
theorem TSup.arg1 (a : AV) : TSup (argTm [a]) [0] := fun t ht => by
  cases t with
  | zero => exact absurd (by simp) ht
  | succ t => rfl
theorem TSup.arg2 (a b : AV) : TSup (argTm [a, b]) [0, 1] := fun t ht => by
  cases t with
  | zero => exact absurd (by simp) ht
  | succ t =>
    cases t with
    | zero => exact absurd (by simp) ht
    | succ t => rfl
theorem tabT_eq {f : Nat → Option AV} {ks : List Nat} {l : List (Nat × AV)} (hs : TSup f ks) (h : (ks ++ l.map (·.1)).map f = (ks ++ l.map (·.1)).map (tabT l)) : f = tabT l := by
  funext t
  by_cases hin : t ∈ ks ++ l.map (·.1)
  · exact List.map_inj_left.1 h t hin
  · rw [hs t (fun hh => hin (List.mem_append_left _ hh)), TSup.tab l t (fun hh => hin (List.mem_append_right _ hh))]

section
variable [Asks] {R : Type} {q : Nat → Pr}

/-- The shared state, written otherwise. -/
theorem Evx.congrG [Same R] {c : Nat} {cal : Cal} {args : List AV} {g g' : Nat → G} {k : Nat → Out → G → Option R} {r : R} (e : ∀ i, g i = g' i) (h : Evx (fun i => runQ (q i) (i - c) R cal args (g' i) (k i)) r) : Evx (fun i => runQ (q i) (i - c) R cal args (g i) (k i)) r :=
  h.of_eq fun i => by rw [e i]

theorem Evx.congrC [Same R] {c : Nat} {cal : Cal} {args : Nat → List AV} {args' : List AV} {g : Nat → G} {g' : G} {k : Nat → Out → G → Option R} {r : R} (ea : ∀ i, args i = args') (e : ∀ i, g i = g') (h : Evx (fun i => runQ (q i) (i - c) R cal args' g' (k i)) r) : Evx (fun i => runQ (q i) (i - c) R cal (args i) (g i) (k i)) r :=
  h.of_eq fun i => by rw [ea, e]

theorem Evx.congrK {K : Nat → Out → G → Option R} {o : Out} {g : Nat → G} {g' : G} {r : R} (e : ∀ i, g i = g') (h : Evx (fun i => K i o g') r) : Evx (fun i => K i o (g i)) r :=
  h.of_eq fun i => by rw [e]

theorem G_eq {g : G} {bx : Nat → Nat → Option Box} {dp : Nat} {lp : List LoopRec} (h1 : g.bx = bx) (h2 : g.dp = dp) (h3 : g.lp = lp) : g = ⟨bx, dp, lp⟩ := by
  cases g; cases h1; cases h2; cases h3; rfl

/-- Loops that also keep what the boxes of other frames hold. -/
theorem Evx.loopB {α : Type} (h : Hint) (id : Nat) (tv : α → List (Option AV)) (bv : α → List (Option Box)) (ot : α → List ((Nat × Nat) × Box)) (dp : Nat) (lp : List LoopRec) (μ : α → Nat) (r : α → R) {B : Nat → St → (Ex → St → Option R) → Option R} {K : Nat → Ex → St → Option R}
    (step : ∀ a (L : Nat → St → Option R), (∀ a' (s'' : Nat → St), μ a' < μ a → (∀ i, headAll h id (s'' i) = (true, tv a', bv a', dp, lp)) →
          (∀ i, (fun d t => if Nat.beq d dp then none else (canonBox ((h.loops id).getD ([], [])).2 (canonTm ((h.loops id).getD ([], [])).1 (s'' i))).g.bx d t) = tabB (ot a')) → Evx (fun i => L i (s'' i)) (r a')) →
      Evx (fun i => B i (mkHead h id (tv a) (bv a) (tabB (ot a)) dp lp) fun e s'' => match e with
        | .normal => L i s''
        | e => K i e s'') (r a))
    (a : α) {hh : Nat → Hint} {idd : Nat → Nat} {fu : Nat → Nat} {s : Nat → St} (e1 : ∀ i, hh i = h) (e2 : ∀ i, idd i = id) (e3 : ∀ i, fu i = i) (hs : ∀ i, headAll h id (s i) = (true, tv a, bv a, dp, lp))
    (ho : ∀ i, (fun d t => if Nat.beq d dp then none else (canonBox ((h.loops id).getD ([], [])).2 (canonTm ((h.loops id).getD ([], [])).1 (s i))).g.bx d t) = tabB (ot a)) : Evx (fun i => loopN (hh i) (idd i) (B i) (fu i) (s i) (K i)) (r a) := by
  have key : ∀ n a, μ a < n → ∀ c (s : Nat → St), (∀ i, headAll h id (s i) = (true, tv a, bv a, dp, lp)) →
      (∀ i, (fun d t => if Nat.beq d dp then none else (canonBox ((h.loops id).getD ([], [])).2 (canonTm ((h.loops id).getD ([], [])).1 (s i))).g.bx d t) = tabB (ot a)) → Evx (fun i => loopN h id (B i) (i - c) (s i) (K i)) (r a) := by
    intro n
    induction n with
    | zero => intro a ha; exact absurd ha (Nat.not_lt_zero _)
    | succ n ih =>
      intro a ha c s hs ho
      have hb : ∀ i, headSt h id (s i) = some (mkHead h id (tv a) (bv a) (tabB (ot a)) dp lp) := by
        intro i
        obtain ⟨bx0, e, hbx⟩ := headAll_head' (hs i)
        rw [e]
        have := ho i
        rw [hbx] at this
        congr 1
        unfold mkHead
        cases hl : h.loops id with
        | none =>
          have := hs i
          unfold headAll at this
          rw [hl] at this
          cases this
        | some p =>
          dsimp only
          congr 2
          funext d t
          cases hd : Nat.beq d dp with
          | true => rfl
          | false =>
            have := congrFun (congrFun this d) t
            dsimp only at this ⊢
            rw [← this, hd]
            rfl
      have h1 := step a (fun i s'' => loopN h id (B i) (i - (c + 1)) s'' (K i)) (fun a' s'' hlt hs'' ho'' => ih a' (by omega) (c + 1) s'' hs'' ho'')
      obtain ⟨N, h1⟩ := h1
      refine ⟨N + c + 1, fun i hi => ?_⟩
      have h2 := h1 i (by omega)
      dsimp only at h2 ⊢
      rw [show i - c = (i - (c + 1)) + 1 by omega]
      rw [loopN, hb i]
      exact h2
  refine (key (μ a + 1) a (Nat.lt_succ_self _) 0 s hs ho).of_eq fun i => ?_
  rw [e1, e2, e3]
  rfl
end
end Go.Abs
