/- The contract of slices.Clone, proved; the program is as its tables say. -/
import Derived.Test.YtfiefcfjedmhaaaDoorPr
import Derived.Test.YtfiefcfjedmhaaaDoorOk
import Derived.Test.YtfiefcfjedmhaaaDoorAbsTop
import Derived.Test.YtfiefcfjedmhaaaDoorShelf
import Derived.KernelRfl
import Derived.WalkKit
import Derived.ProofKit
namespace Go.Proofs.YtfiefcfjedmhaaaDoor
open Go Go.Abs Go.Abs.Asks
set_option linter.unusedVariables false
set_option linter.unusedSimpArgs false
set_option linter.unusedSectionVars false

theorem pr0ok (m : Nat) : PrOk Tryd.prog (pr0 m) where
  mix := mixok
  T := tyok
  F := fok
  H := hok
  K := fun f kf h => by cases h

section
variable [Asks]
theorem clone_cons (e : List D) (es : List (List D)) (h : (es.length + 1) * 9 ≤ 1099511627776) : Ev pr0 46 [.sl 1 (e :: es)] (.ret [.own (.res 0) 1 (e :: es)]) := by
  apply Ev.enter; intro c; (conv => arg 1; ext i; whnf)
  refine Evx.appd rfl (m := (0 + (e :: es).length) * 9) (by rw [List.length_cons]; omega) ?_
  (conv => arg 1; ext i; whnf)
  exact Evx.pure rfl
theorem clone_emp : Ev pr0 46 [.emp 1] (.ret [.own (.res 0) 1 []]) := by
  apply Ev.enter; intro c; (conv => arg 1; ext i; whnf)
  refine Evx.appd rfl (m := 0) (by omega) ?_
  (conv => arg 1; ext i; whnf)
  exact Evx.pure rfl
end

theorem Ev_pcall {q : Nat → Pr} {f : FuncId} {ds : List D} {o : Out} (h : @Ev plainAsks q f ds o) : ∃ i, pcall (q i) i f ds = some o := by
  obtain ⟨N, h⟩ := h 0
  refine ⟨N, ?_⟩
  have := h N (Nat.le_refl _)
  dsimp only at this
  rw [@runQ_eq plainAsks] at this
  exact this

theorem clone_none (w : World) (c : Nat) : Calls Tryd.prog 46 #[.slice none 0 c] w fun e w' => e = .returned (.slice none 0 0) ∧ RowKit.Below w.heap.size w w' := by
  have hb : ∀ w : World, (binOp .eql 22 (.slice none 0 c) (.slice none 0 0)).run Tryd.prog w = .ok (.bool true) w := by
    intro w
    kernel_rfl
  go_enter Tryd.func46, Tryd.ntmps46
  go_wp2
  all_goals go_ret
  exact ⟨rfl, RowKit.Below.refl _ _⟩

theorem rel_below {w w' : World} {L : Nat → Nat} (hL : ∀ b, w.heap.size ≤ b → L b = 0) (hb : RowKit.Below w.heap.size w w') : GI G0 w' (H0 L) ∧ Rel G0 (H0 L) w G0 w' (H0 L) := by
  refine ⟨GI.start fun b h => hL b (Nat.le_trans hb.size h), ?_⟩
  exact
    { os := hb.os, tape := hb.tape, output := hb.output, size := hb.size
      ext := ext_grow hb (fun _ _ => rfl) hL
      keep := fun b h _ => ⟨hb.block b h, rfl⟩
      bxs := fun d t h => by cases h
      ro := fun l h => rfl
      ga := fun _ _ _ _ => rfl
      bxMay := fun d t b h => by cases h
      gaMay := fun i b _ h => by cases h
      lpMay := fun l h => by cases h
      lpLen := Nat.le_refl _ }

theorem clone_ok : KSound Tryd.prog 46 (kClone 1 8) := by
  intro ds out h w L vs hL hv
  unfold kClone at h
  split at h
  case h_2 => cases h
  rename_i x
  split at h
  case h_2 => cases h
  rename_i es hrow
  split at h
  case h_2 => cases h
  rename_i hbd
  cases h
  have hbd : es.length * 9 ≤ 1099511627776 := Nat.le_of_ble_eq_true hbd
  simp only [RepVs] at hv
  obtain ⟨v, vs', rfl, hv, rfl⟩ := hv
  have key : (∃ e es', es = e :: es' ∧ RepV w L (.sl 1 es) v) ∨ (es = [] ∧ ((∃ c, v = .slice none 0 c) ∨ RepV w L (.emp 1) v)) := by
    have empty : ∀ {a : Option Addr} {n c : Nat}, v = .slice a n c → n = 0 → (∃ c, v = .slice none 0 c) ∨ RepV w L (.emp 1) v := by
      rintro (_ | a) n c rfl rfl
      · exact .inl ⟨c, rfl⟩
      · exact .inr (by simp only [RepV]; exact ⟨a, c, rfl⟩)
    cases x with
    | nils =>
      simp only [AV.row, Option.some.injEq] at hrow
      simp only [RepV] at hv
      exact .inr ⟨hrow.symm, empty hv rfl⟩
    | emp z =>
      simp only [AV.row] at hrow
      split at hrow
      · cases hrow
        simp only [RepV] at hv
        obtain ⟨a, c, rfl⟩ := hv
        exact .inr ⟨rfl, empty rfl rfl⟩
      · cases hrow
    | sl z es1 =>
      simp only [AV.row] at hrow
      split at hrow
      · rename_i hz
        cases hrow
        have hz := Nat.eq_of_beq_eq_true hz
        subst hz
        cases es with
        | nil =>
          simp only [RepV] at hv
          obtain ⟨a, n, c, vs, rfl, hn, _⟩ := hv
          exact .inr ⟨rfl, empty rfl hn⟩
        | cons e es => exact .inl ⟨e, es, rfl, hv⟩
      · cases hrow
    | full z es1 =>
      simp only [AV.row] at hrow
      split at hrow
      · rename_i hz
        cases hrow
        have hz := Nat.eq_of_beq_eq_true hz
        subst hz
        simp only [RepV] at hv
        obtain ⟨a, n, vs, rfl, hn, h1, h2, h3⟩ := hv
        cases es with
        | nil => exact .inr ⟨rfl, empty rfl hn⟩
        | cons e es => exact .inl ⟨e, es, rfl, by simp only [RepV]; exact ⟨a, n, n, vs, rfl, hn, Nat.le_refl _, h1, h2, h3⟩⟩
      · cases hrow
    | _ => simp only [AV.row] at hrow; cases hrow
  rcases key with ⟨e, es', rfl, hr⟩ | ⟨rfl, ⟨c, rfl⟩ | hr⟩
  · obtain ⟨i, hp⟩ := Ev_pcall (@clone_cons plainAsks e es' (by simpa using hbd))
    exact pcall_sound (pr0ok i) hp hL ⟨v, [], rfl, hr, rfl⟩
  · refine ⟨⟨_, _, Tryd.func46, rfl, by kernel_rfl⟩, callsIn_wide.2 ((clone_none w c).mono ?_)⟩
    rintro e w' ⟨rfl, hb⟩
    obtain ⟨g1, g2⟩ := rel_below hL hb
    refine ⟨G0, H0 L, ⟨[.slice none 0 0], rfl, ?_, ?_, rfl, ?_⟩, rfl, g1, g2⟩
    · simp only [RepAs, RepA]
      refine ⟨_, _, rfl, .inl ?_, rfl⟩
      simp only [RepV]
      exact ⟨none, 0, [], rfl, rfl, (by simp), by simp [RepF], .inl rfl⟩
    · exact ⟨fun i sz es e => by cases e; rfl, trivial⟩
    · simp [AV.oks, AV.ok, IsRes]
  · obtain ⟨i, hp⟩ := Ev_pcall (@clone_emp plainAsks)
    exact pcall_sound (pr0ok i) hp hL ⟨v, [], rfl, hr, rfl⟩

theorem strsOf_rep {w : World} {L : Nat → Nat} : ∀ {es : List (List D)} {xs : List ByteArray} {vs : List Value}, strsOf es = some xs → RepF w L es vs → vs = xs.map .string
  | [], xs, vs, h, hr => by
    simp only [strsOf, Option.some.injEq] at h; subst h
    simpa [RepF] using hr
  | e :: es, xs, vs, h, hr => by
    simp only [RepF] at hr
    obtain ⟨us, ts, rfl, h1, h2⟩ := hr
    match e, h with
    | [.str s], h =>
      simp only [strsOf] at h
      cases hl : strsOf es with
      | none => simp [hl] at h
      | some l =>
        simp only [hl, Option.some.injEq] at h; subst h
        have := strsOf_rep hl h2
        simp only [RepVs, RepV] at h1
        obtain ⟨u, us', rfl, rfl, rfl⟩ := h1
        rw [this]; rfl
theorem strsOf_len : ∀ {es : List (List D)} {xs : List ByteArray}, strsOf es = some xs → xs.length = es.length
  | [], xs, h => by simp only [strsOf, Option.some.injEq] at h; subst h; rfl
  | e :: es, xs, h => by
    match e, h with
    | [.str s], h =>
      simp only [strsOf] at h
      cases hl : strsOf es with
      | none => simp [hl] at h
      | some l =>
        simp only [hl, Option.some.injEq] at h; subst h
        simp [strsOf_len hl]
theorem join_ok : KSound Tryd.prog 42 kJoin := by
  intro ds out h w L vs hL hv
  unfold kJoin at h
  split at h
  case h_2 => cases h
  rename_i x sep
  split at h
  case h_2 => cases h
  rename_i es hrow
  split at h
  case h_2 => cases h
  rename_i xs hxs
  split at h
  case h_2 => cases h
  rename_i hbd
  cases h
  simp only [Bool.and_eq_true, Nat.ble_eq] at hbd
  obtain ⟨hb1, hb2⟩ := hbd
  simp only [RepVs] at hv
  obtain ⟨v, vs', rfl, hv, v2, vs2, rfl, hv2, rfl⟩ := hv
  simp only [RepV] at hv2
  subst hv2
  have hsl : RepV w L (.sl 1 es) v := row_rep' (h := H0 L) (a := .d x) hrow (by simp only [RepA]; exact hv)
  simp only [RepV] at hsl
  obtain ⟨a, n, c, us, rfl, hn, hnc, hus, hrf, hm⟩ := hsl
  have hxl := strsOf_len hxs
  have hur := strsOf_rep hxs hrf
  refine ⟨⟨_, _, Tryd.func42, rfl, by kernel_rfl⟩, callsIn_wide.2 ?_⟩
  have fin : ∀ w', RowKit.Below w.heap.size w w' → ∃ g' h', OutM g' w' h' (.ret [.d (.str (joinS xs sep))]) (.returned (.string (joinS xs sep))) ∧ OutD (.ret [.d (.str (joinS xs sep))]) ∧ GI g' w' h' ∧ Rel G0 (H0 L) w g' w' h' := by
    intro w' hb
    obtain ⟨g1, g2⟩ := rel_below hL hb
    refine ⟨G0, H0 L, ⟨[.string (joinS xs sep)], rfl, ?_, ?_, rfl, ?_⟩, rfl, g1, g2⟩
    · simp only [RepAs, RepA, RepV]
      exact ⟨_, _, rfl, rfl, rfl⟩
    · exact ⟨(fun i sz es e => by cases e), trivial⟩
    · simp [AV.oks, AV.ok]
  by_cases h0 : n = 0
  · have hx0 : xs = [] := List.length_eq_zero_iff.1 (by omega)
    subst hx0
    subst h0
    refine (Tryd.strings_Join_none a c sep w).mono ?_
    rintro e w' ⟨rfl, rfl⟩
    exact fin w' (RowKit.Below.refl _ _)
  · rcases hm with hm | ⟨b, o, rfl, hlb, hc⟩
    · exact absurd hm h0
    · have hcells : ∀ (j : Nat) x, xs[j]? = some x → w.cell? ⟨b, o + j, none⟩ = some (.string x) := by
        intro j x hj
        exact (hc j (.string x) (by rw [hur, List.getElem?_map, hj]; rfl)).1
      have hbs : b < w.heap.size := by
        by_cases hb : b < w.heap.size
        · exact hb
        · have := hL b (by omega); omega
      have := Tryd.strings_Join b o c xs sep w hcells hbs (by omega) (by omega) hb1
      have hnx : n = xs.length := by omega
      rw [← hnx] at this
      refine this.mono ?_
      rintro e w' ⟨rfl, hb⟩
      exact fin w' hb

theorem prok (m : Nat) : PrOk Tryd.prog (pr m) where
  mix := mixok
  T := tyok
  F := fok
  H := hok
  K := fun f kf h => by
    unfold pr kK at h
    dsimp only at h
    split at h
    · cases h; exact join_ok
    · cases h; exact clone_ok
    · cases h

/-- A law's function that ends in true, by its walk. -/
theorem law_calls {f : FuncId} {ds : List D} (h : @Ev plainAsks pr f ds (.ret [.d (.bool true)])) {w : World} {vs : List Value} (hv : RepVs w (LW w) ds vs) :
    Calls Tryd.prog f vs.toArray w fun e w' => e = .returned (.bool true) ∧ RowKit.Below w.heap.size w w' := by
  obtain ⟨i, hp⟩ := Ev_pcall h
  exact pcall_bool (prok i) hp (LW_lim w) hv
end Go.Proofs.YtfiefcfjedmhaaaDoor
