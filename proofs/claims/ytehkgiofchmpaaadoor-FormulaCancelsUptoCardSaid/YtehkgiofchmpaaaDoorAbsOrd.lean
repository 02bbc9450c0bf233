/- Regions that draw their order, some of whose operations may not change places: every order of these is run. -/
import Derived.Test.YtehkgiofchmpaaaDoorAbsDraw
namespace Go.Abs
open Go
set_option linter.unusedVariables false
set_option linter.unusedSimpArgs false
set_option linter.unnecessarySimpa false

section
variable {P : Program} {g0 : G} {h0 : Gh} {w0 : World} {nt : Nat} {R : Type} {cx : Cx R}

theorem runO_runL {ops : Array Oper} {k0 : St → Option R} : ∀ (l : List Nat) (s : St), runO cx ops l s k0 = runL cx (fun _ => false) ops k0 l s
  | [], s => rfl
  | i :: rest, s => by
    simp only [runO, runL]
    cases ops[i]? with
    | none => rfl
    | some o =>
      dsimp only
      congr 1
      refine nrm_eq _ (fun s' => ?_) (fun e s' he => ?_)
      · exact runO_runL rest s'
      · cases e <;> first | exact absurd rfl he | rfl

theorem both_some [Same R] {x y : Option R} {r : R} (h : both x y = some r) : x = some r ∧ y = some r := by
  unfold both at h
  split at h
  · rename_i a b
    split at h
    · rename_i hs
      have := Same.eq a b hs
      cases h
      exact ⟨rfl, by rw [this]⟩
    · cases h
  · cases h

theorem runOs_all [Same R] {ops : Array Oper} {k0 : St → Option R} {r : R} : ∀ (os : List (List Nat)) (s : St), runOs cx ops os s k0 = some r → ∀ w ∈ os, runL cx (fun _ => false) ops k0 w s = some r
  | [], s, h, w, hw => by cases hw
  | w0 :: ws, s, h, w, hw => by
    unfold runOs at h
    cases ws with
    | nil =>
      simp only [List.mem_singleton] at hw
      subst hw
      rw [← runO_runL]; exact h
    | cons w1 ws =>
      dsimp only at h
      obtain ⟨h1, h2⟩ := both_some h
      rcases List.mem_cons.1 hw with rfl | hw
      · rw [← runO_runL]; exact h1
      · exact runOs_all (w1 :: ws) s h2 w hw

/-! ### Orders as lists -/
theorem befB_pos : ∀ {a : List Nat} {j i : Nat} {b : List Nat}, j ∈ a → i ∉ a → befB (a ++ i :: b) i j = false
  | x :: xs, j, i, b, hj, hi => by
    simp only [List.cons_append, befB]
    have hx : x ≠ i := fun e => hi (by simp [e])
    rw [if_neg (by simpa using hx)]
    split
    · rfl
    · rename_i hxj
      have hxj : x ≠ j := by simpa using hxj
      rcases List.mem_cons.1 hj with e | hj
      · exact absurd e.symm hxj
      · exact befB_pos hj (fun h => hi (by simp [h]))

structure Ordr (ops : Array Oper) (ms : List Nat) (cf : List (Nat × Nat)) (w : List Nat) : Prop where
  nodup : w.Nodup
  all : ∀ i, i < ops.size → i ∈ w
  lt : ∀ i ∈ w, i < ops.size
  pair : ∀ a i b, w = a ++ i :: b → ∀ o, ops[i]? = some o → (∀ e ∈ o.after.toList, Region.binds .any e = true → e.on ∈ a) ∧
    ∀ j ∈ a, (ms.getD i 0).testBit j = true ∨ confB cf j i = true ∨ ∃ p, ops[j]? = some p ∧ swaps (clsOp p.op) (clsOp o.op) = true ∧ Oper.apart ops p o = true ∧ dstOk p = true ∧ dstOk o = true

theorem listOk_spec {ops : Array Oper} {ms : List Nat} {cf : List (Nat × Nat)} : ∀ (l pre : List Nat), listOk ops ms cf l pre = true → pre.Nodup →
    (pre ++ l).Nodup ∧ (∀ i ∈ l, i < ops.size) ∧ ∀ a i b, l = a ++ i :: b → ∀ o, ops[i]? = some o → (∀ e ∈ o.after.toList, Region.binds .any e = true → e.on ∈ pre ++ a) ∧
    ∀ j ∈ pre ++ a, (ms.getD i 0).testBit j = true ∨ confB cf j i = true ∨ ∃ p, ops[j]? = some p ∧ swaps (clsOp p.op) (clsOp o.op) = true ∧ Oper.apart ops p o = true ∧ dstOk p = true ∧ dstOk o = true
  | [], pre, h, hn => ⟨by simpa using hn, by simp, fun a i b e => by simp at e⟩
  | i :: rest, pre, h, hn => by
    simp only [listOk, Bool.and_eq_true] at h
    obtain ⟨h1, h2⟩ := h
    cases ho : ops[i]? with
    | none => simp [ho] at h1
    | some o =>
      simp only [ho, Bool.and_eq_true, Bool.not_eq_true'] at h1
      obtain ⟨⟨h3, h4⟩, h5⟩ := h1
      have hni : i ∉ pre := by
        intro hm
        have : pre.any (Nat.beq i ·) = true := List.any_eq_true.2 ⟨i, hm, by simp⟩
        rw [h3] at this; cases this
      have hn' : (pre ++ [i]).Nodup := by
        rw [List.nodup_append]
        refine ⟨hn, by simp, ?_⟩
        intro x hx y hy
        simp at hy; subst hy
        intro e; subst e; exact hni hx
      obtain ⟨g1, g2, g3⟩ := listOk_spec rest (pre ++ [i]) h2 hn'
      have hlt : i < ops.size := (Array.getElem?_eq_some_iff.1 ho).1
      refine ⟨by simpa using g1, ?_, ?_⟩
      · intro j hj
        rcases List.mem_cons.1 hj with rfl | hj
        · exact hlt
        · exact g2 j hj
      · intro a i' b e o' ho'
        cases a with
        | nil =>
          simp only [List.nil_append, List.cons.injEq] at e
          obtain ⟨rfl, rfl⟩ := e
          rw [ho] at ho'; cases ho'
          refine ⟨?_, ?_⟩
          · intro e he hb
            have := List.all_eq_true.1 h4 e he
            rw [hb] at this
            simp only [Bool.not_true, Bool.false_or] at this
            obtain ⟨x, hx, hxe⟩ := List.any_eq_true.1 this
            have : e.on = x := by simpa using hxe
            rw [this]; simpa using hx
          · intro j hj
            rw [List.append_nil] at hj
            have := List.all_eq_true.1 h5 j hj
            simp only [Bool.or_eq_true] at this
            rcases this with (h | h) | h
            · exact .inl h
            · exact .inr (.inl h)
            · refine .inr (.inr ?_)
              cases hp : ops[j]? with
              | none => rw [hp] at h; cases h
              | some p =>
                rw [hp] at h
                simp only [Bool.and_eq_true] at h
                exact ⟨p, rfl, h.1.1.1, h.1.1.2, h.1.2, h.2⟩
        | cons x a =>
          simp only [List.cons_append, List.cons.injEq] at e
          obtain ⟨rfl, e⟩ := e
          have := g3 a i' b e o' ho'
          simpa using this

theorem split_filter {w : List Nat} {i : Nat} {listed : Array Bool} (hn : w.Nodup) (hi : i ∈ w) (hil : listed.getD i true = false) (hlt : i < listed.size) :
    ∃ a b, w = a ++ i :: b ∧ i ∉ a ∧ w.filter (fun j => !listed.getD j true) = a.filter (fun j => !listed.getD j true) ++ i :: b.filter (fun j => !listed.getD j true) ∧
      w.filter (fun j => !(listed.setIfInBounds i true).getD j true) = a.filter (fun j => !listed.getD j true) ++ b.filter (fun j => !listed.getD j true) := by
  obtain ⟨a, b, rfl⟩ := List.append_of_mem hi
  rw [List.nodup_append] at hn
  obtain ⟨n1, n2, n3⟩ := hn
  have ha : i ∉ a := fun h => n3 i h i (by simp) rfl
  have hb : i ∉ b := (List.nodup_cons.1 n2).1
  refine ⟨a, b, rfl, ha, ?_, ?_⟩
  · rw [List.filter_append, List.filter_cons]
    simp [hil]
  · rw [List.filter_append, List.filter_cons]
    have hii : (listed.setIfInBounds i true).getD i true = true := by
      rw [Array.getD_eq_getD_getElem?, Array.getElem?_setIfInBounds_self_of_lt hlt]; rfl
    rw [hii]
    simp only [Bool.not_true, Bool.false_eq_true, if_false]
    congr 1
    · refine List.filter_congr fun j hj => ?_
      have hji : j ≠ i := fun e => ha (e ▸ hj)
      rw [Array.getD_eq_getD_getElem?, Array.getD_eq_getD_getElem?, Array.getElem?_setIfInBounds_ne (Ne.symm hji)]
    · refine List.filter_congr fun j hj => ?_
      have hji : j ≠ i := fun e => hb (e ▸ hj)
      rw [Array.getD_eq_getD_getElem?, Array.getD_eq_getD_getElem?, Array.getElem?_setIfInBounds_ne (Ne.symm hji)]

theorem confB_symm {cf : List (Nat × Nat)} {i j : Nat} (h : confB cf j i = true) : confB cf i j = true := by
  unfold confB at h ⊢
  obtain ⟨p, hp, h⟩ := List.any_eq_true.1 h
  refine List.any_eq_true.2 ⟨p, hp, ?_⟩
  simp only [Bool.or_eq_true] at h ⊢
  exact h.symm

/-- What is left of the operations in question. -/
def remS (listed : Array Bool) (S : List Nat) : List Nat := S.filter fun i => !listed.getD i true

theorem ord_sound (hcx : Cxt P cx nt) {F : Fence} (hF : IsF F) {ops : Array Oper} {ms : List Nat} {cf : List (Nat × Nat)} {k0 : St → Option R} {r : R} {Q : Exit → Act → World → Prop} (hQ : ∀ s' a' w' h', SI nt g0 h0 w0 s' a' w' h' → k0 s' = some r → Q .normal a' w')
    (hlt : ∀ j o, ops[j]? = some o → ∀ e ∈ o.after.toList, Region.binds .any e = true → e.on < j) (hanc : ∀ j i, (ms.getD j 0).testBit i = true → Anc ops i j) {S0 : List Nat} (hS0 : ∀ i j, i < ops.size → j < ops.size → confB cf j i = true → i ∈ S0) :
    ∀ (fuel : Nat) (listed : Array Bool) (n : Nat) (os : List (List Nat)) {s : St} {a : Act} {w : World} {h : Gh}, listed.size = ops.size → Closed ops listed → (remL ops.size listed).length ≤ fuel → SI nt g0 h0 w0 s a w h →
      covB ms cf n (remS listed S0) os = true → os ≠ [] → (∀ v ∈ os, Ordr ops ms cf v) → (∀ v ∈ os, runL cx (fun _ => false) ops k0 (v.filter fun j => !listed.getD j true) s = some r) →
      wpAnyIn F 0 P .any ops Q fuel listed a w := by
  have done : ∀ (listed : Array Bool), listed.size = ops.size → Region.ready .any ops listed = [] → remL ops.size listed = [] := by
    intro listed hsz hr
    cases hrem : remL ops.size listed with
    | nil => rfl
    | cons i rest =>
      exfalso
      have hi : i ∈ remL ops.size listed := by rw [hrem]; simp
      unfold remL at hi
      simp only [List.mem_filter, List.mem_range, Bool.not_eq_true'] at hi
      obtain ⟨hin, hil⟩ := hi
      have hpost : ∀ j ∈ remL ops.size listed, i ≤ j := by
        intro j hj
        unfold remL at hj hrem
        have hs : List.Pairwise (· < ·) ((List.range ops.size).filter fun i => !listed.getD i true) := List.Pairwise.filter _ List.pairwise_lt_range
        rw [hrem] at hs hj
        rcases List.mem_cons.1 hj with rfl | hj
        · exact Nat.le_refl _
        · exact Nat.le_of_lt (List.rel_of_pairwise_cons hs hj)
      have hmem : i ∈ Region.ready .any ops listed := by
        rw [mem_ready]
        refine ⟨hil, ops[i], Array.getElem?_eq_getElem hin, ?_⟩
        intro e he hb
        have hlt' := hlt i _ (Array.getElem?_eq_getElem hin) e (by simpa using he) hb
        by_cases hu : listed.getD e.on true = true
        · exact getD_in (by omega) hu
        · exfalso
          have hu : listed.getD e.on true = false := by simpa using hu
          have hmem : e.on ∈ remL ops.size listed := by
            unfold remL
            simp only [List.mem_filter, List.mem_range, Bool.not_eq_true']
            exact ⟨by omega, hu⟩
          have := hpost e.on hmem
          omega
      rw [hr] at hmem
      cases hmem
  have empty : ∀ (listed : Array Bool) (v : List Nat), Ordr ops ms cf v → remL ops.size listed = [] → (v.filter fun j => !listed.getD j true) = [] := by
    intro listed v hv hrem
    rw [List.filter_eq_nil_iff]
    intro i hi hc
    have : i ∈ remL ops.size listed := by
      unfold remL
      simp only [List.mem_filter, List.mem_range]
      exact ⟨hv.lt i hi, by simpa using hc⟩
    rw [hrem] at this; cases this
  intro fuel
  induction fuel with
  | zero =>
    intro listed n os s a w h hsz hc hlen hsi hcov hne hor hs
    have hrem : remL ops.size listed = [] := List.length_eq_zero_iff.1 (by omega)
    obtain ⟨v, hv⟩ := List.exists_mem_of_ne_nil os hne
    have hsv := hs v hv
    rw [empty listed v (hor v hv) hrem] at hsv
    refine ⟨?_, hQ s a w h hsi hsv⟩
    rw [List.eq_nil_iff_forall_not_mem]
    intro i hi
    obtain ⟨h1, o, ho, _⟩ := mem_ready.1 hi
    have : i ∈ remL ops.size listed := by
      unfold remL
      simp only [List.mem_filter, List.mem_range, Bool.not_eq_true']
      exact ⟨(Array.getElem?_eq_some_iff.1 ho).1, h1⟩
    rw [hrem] at this; cases this
  | succ fuel ih =>
    intro listed n os s a w h hsz hc hlen hsi hcov hne hor hs
    refine ⟨fun hr => ?_, fun i hi => ?_⟩
    · obtain ⟨v, hv⟩ := List.exists_mem_of_ne_nil os hne
      have hsv := hs v hv
      rw [empty listed v (hor v hv) (done listed hsz hr)] at hsv
      exact hQ s a w h hsi hsv
    · obtain ⟨hil, o, ho, hall⟩ := mem_ready.1 hi
      have hin := (Array.getElem?_eq_some_iff.1 ho).1
      have hnanc : ∀ j, listed.getD j true = false → ¬ Anc ops j i := by
        intro j hj hanc
        have hjf := getD_tf hj
        cases hanc with
        | edge ho' he hb hi' =>
          rw [ho] at ho'; cases ho'
          have := hall _ (by simpa using he) hb
          rw [hi', hjf] at this; cases this
        | step ho' he hb hi' =>
          rw [ho] at ho'; cases ho'
          have := hc.anc hi' (hall _ (by simpa using he) hb)
          rw [hjf] at this; cases this
      -- the orders that go on
      have next : ∃ (n' : Nat) (os' : List (List Nat)), os' ≠ [] ∧ (∀ v ∈ os', v ∈ os ∧ ∀ j ∈ remS listed S0, confB cf j i = true → befB v i j = true) ∧ covB ms cf n' (remS (listed.setIfInBounds i true) S0) os' = true := by
        by_cases hiS : i ∈ remS listed S0
        · cases n with
          | zero =>
            simp only [covB, List.isEmpty_iff] at hcov
            rw [hcov] at hiS; cases hiS
          | succ n =>
            simp only [covB] at hcov
            have h1 := List.all_eq_true.1 hcov i hiS
            simp only [Bool.or_eq_true, Bool.and_eq_true, Bool.not_eq_true'] at h1
            rcases h1 with h1 | ⟨h1, h2⟩
            · exfalso
              obtain ⟨j, hj, hb⟩ := List.any_eq_true.1 h1
              have hj2 : listed.getD j true = false := by
                simp only [remS, List.mem_filter, Bool.not_eq_true'] at hj
                exact hj.2
              exact hnanc j hj2 (hanc i j hb)
            · refine ⟨n, os.filter fun w => (remS listed S0).all fun j => !confB cf j i || befB w i j, ?_, ?_, ?_⟩
              · intro e; rw [e] at h1; cases h1
              · intro v hv
                rw [List.mem_filter] at hv
                refine ⟨hv.1, fun j hj hcj => ?_⟩
                have := List.all_eq_true.1 hv.2 j hj
                rw [hcj] at this
                simpa using this
              · have : (remS listed S0).filter (fun j => !Nat.beq j i) = remS (listed.setIfInBounds i true) S0 := by
                  unfold remS
                  rw [List.filter_filter]
                  refine List.filter_congr fun j hj => ?_
                  by_cases hji : j = i
                  · subst hji
                    have e1 : (listed.setIfInBounds j true).getD j true = true := by
                      rw [Array.getD_eq_getD_getElem?, Array.getElem?_setIfInBounds_self_of_lt (by omega)]; rfl
                    rw [e1]
                    simp
                  · have e1 : (listed.setIfInBounds i true).getD j true = listed.getD j true := by
                      rw [Array.getD_eq_getD_getElem?, Array.getD_eq_getD_getElem?, Array.getElem?_setIfInBounds_ne (Ne.symm hji)]
                    have e2 : Nat.beq j i = false := Bool.eq_false_iff.2 (by simpa using hji)
                    rw [e1, e2]
                    simp
                rw [← this]; exact h2
        · refine ⟨n, os, hne, fun v hv => ⟨hv, fun j hj hcj => ?_⟩, ?_⟩
          · exfalso
            have hjs : j < ops.size := by
              by_cases hjs : j < ops.size
              · exact hjs
              · simp only [remS, List.mem_filter, Bool.not_eq_true'] at hj
                have h2 := hj.2
                rw [Array.getD_eq_getD_getElem?, Array.getElem?_eq_none (by omega)] at h2
                simp at h2
            have : i ∈ remS listed S0 := by
              simp only [remS, List.mem_filter, Bool.not_eq_true']
              exact ⟨hS0 i j hin hjs hcj, hil⟩
            exact hiS this
          · have : remS (listed.setIfInBounds i true) S0 = remS listed S0 := by
              unfold remS
              refine List.filter_congr fun j hj => ?_
              by_cases hji : j = i
              · subst hji
                exfalso
                apply hiS
                simp only [remS, List.mem_filter, Bool.not_eq_true']
                exact ⟨hj, hil⟩
              · rw [Array.getD_eq_getD_getElem?, Array.getD_eq_getD_getElem?, Array.getElem?_setIfInBounds_ne (Ne.symm hji)]
            rw [this]; exact hcov
      obtain ⟨n', os', hne', hos', hcov'⟩ := next
      -- each of them may begin so
      have key : ∀ v ∈ os', ∃ s1, actG cx ops o s = some s1 ∧ runL cx (fun _ => false) ops k0 (v.filter fun j => !(listed.setIfInBounds i true).getD j true) s1 = some r := by
        intro v hv
        obtain ⟨hvo, hvb⟩ := hos' v hv
        have hov := hor v hvo
        obtain ⟨pa, pb, e1, e2, e3, e4⟩ := split_filter (listed := listed) hov.nodup (hov.all i hin) hil (by omega)
        have hsv := hs v hvo
        rw [e3] at hsv
        obtain ⟨p1, p2⟩ := hov.pair pa i pb e1 o ho
        have hpair : ∀ j ∈ pa.filter (fun j => !listed.getD j true), ∀ p, ops[j]? = some p → Pair ops p o false false := by
          intro j hj p hp
          simp only [List.mem_filter, Bool.not_eq_true'] at hj
          rcases p2 j hj.1 with h1 | h1 | ⟨p', hp', h1, h2, h3, h4⟩
          · exact absurd (hanc i j h1) (hnanc j hj.2)
          · exfalso
            have hjs : j < ops.size := (Array.getElem?_eq_some_iff.1 hp).1
            have hjS : j ∈ remS listed S0 := by
              simp only [remS, List.mem_filter, Bool.not_eq_true']
              exact ⟨hS0 j i hjs hin (confB_symm h1), hj.2⟩
            have hb := hvb j hjS h1
            rw [e1, befB_pos hj.1 e2] at hb
            cases hb
          · rw [hp] at hp'; cases hp'
            exact ⟨h1, h2, h3, h4, (fun h => by cases h), (fun h => by cases h)⟩
        have hfr : runL cx (fun _ => false) ops k0 (i :: (pa.filter (fun j => !listed.getD j true) ++ pb.filter (fun j => !listed.getD j true))) s = some r := by
          cases hpre : pa.filter (fun j => !listed.getD j true) with
          | nil => rw [hpre] at hsv; exact hsv
          | cons j0 pre0 =>
            rw [← hpre]
            have hd : dstOk o = true := by
              have hj0 : j0 ∈ pa.filter (fun j => !listed.getD j true) := by rw [hpre]; simp
              have hj0' := hj0
              simp only [List.mem_filter, Bool.not_eq_true'] at hj0'
              have hjs : j0 < ops.size := hov.lt j0 (by rw [e1]; simp [hj0'.1])
              exact (hpair j0 hj0 _ (Array.getElem?_eq_getElem hjs)).d2
            exact front (eff := fun _ => false) hcx ho hd _ _ hsi (fun j hj p hpj => (fun q => ⟨q.sw, q.ap, q.d1, q.d2, (fun h => by cases h), (fun h => by cases h)⟩) (hpair j hj p hpj)) hsv
        simp only [runL, ho] at hfr
        replace hfr := (runC_some hfr).2
        rw [act_run] at hfr
        cases hact : actG cx ops o s with
        | none => simp [hact] at hfr
        | some s1 =>
          simp only [hact] at hfr
          exact ⟨s1, rfl, by rw [e4]; exact hfr⟩
      classical
      obtain ⟨v0, hv0⟩ := List.exists_mem_of_ne_nil os' hne'
      obtain ⟨s1, hact, _⟩ := key v0 hv0
      have hrun : runG cx false ops o s (nrm fun s' => if ∀ v ∈ os', runL cx (fun _ => false) ops k0 (v.filter fun j => !(listed.setIfInBounds i true).getD j true) s' = some r then some r else none) = some r := by
        rw [act_run, hact]
        dsimp only
        rw [if_pos]
        intro v hv
        obtain ⟨s2, h1, h2⟩ := key v hv
        rw [hact] at h1; cases h1
        exact h2
      have hkey := runG_sound hcx.T hcx.nt hcx.C hcx.E hF hrun hsi (next := wpAnyIn F 0 P .any ops Q fuel (listed.setIfInBounds i true)) (Q := Q)
        ⟨fun s' a' w' h' hsi' hk => by
          simp only [nrm] at hk
          split at hk
          case isFalse => cases hk
          rename_i hall'
          refine ih (listed.setIfInBounds i true) n' os' (by simpa using hsz) ?_ ?_ hsi' hcov' hne' (fun v hv => hor v (hos' v hv).1) hall'
          · intro j o' ho' hj e he hb
            by_cases hji : j = i
            · subst hji
              rw [ho] at ho'; cases ho'
              have := hall e (by simpa using he) hb
              have hne : e.on ≠ j := by have := hlt j o ho e he hb; omega
              rw [Array.getD_eq_getD_getElem?] at this ⊢
              rw [Array.getElem?_setIfInBounds_ne (Ne.symm hne)]; exact this
            · have hj' : listed.getD j false = true := by
                rw [Array.getD_eq_getD_getElem?] at hj ⊢
                rw [Array.getElem?_setIfInBounds_ne (Ne.symm hji)] at hj; exact hj
              have := hc j o' ho' hj' e he hb
              by_cases hei : e.on = i
              · rw [hei, Array.getD_eq_getD_getElem?, Array.getElem?_setIfInBounds_self_of_lt (by omega)]; rfl
              · rw [Array.getD_eq_getD_getElem?] at this ⊢
                rw [Array.getElem?_setIfInBounds_ne (Ne.symm hei)]; exact this
          · obtain ⟨pre, post, h1, h2, h3⟩ := remL_split hin hsz hil
            rw [h2]
            rw [h1] at hlen
            simp at hlen ⊢
            omega, fun x s' a' w' h' v _ _ hk => by simp [nrm] at hk⟩
      unfold wpOpIn
      simp only [ho]
      exact hkey

theorem draw_ord [Same R] (hmix : P.follows .mixedOrders = true) (hT : TyOk P cx.T) (hnt : cx.nt = nt) (hC : CSound P cx.C) (hE : ESound P cx.E) {F : Fence} (hF : IsF F) {id : Nat} {ops : Array Oper} {k0 : St → Option R} {r : R} {s : St}
    {cf : List (Nat × Nat)} {os : List (List Nat)} (hok : ordOk cf os ops = true) (hs : runOs cx ops os s k0 = some r) {Q : Exit → Act → World → Prop} (hk : ∀ s' a' w' h', SI nt g0 h0 w0 s' a' w' h' → k0 s' = some r → Q .normal a' w') {a : Act} {w : World} {h : Gh} (hsi : SI nt g0 h0 w0 s a w h) :
    (Code.region id ops true).wpIn F 0 P Q a w := by
  unfold ordOk at hok
  rw [maskGo_eq] at hok
  simp only [Bool.and_eq_true, Bool.not_eq_true'] at hok
  obtain ⟨he, ⟨hne, hg⟩, hf⟩ := hok
  have hlt : ∀ j o, ops[j]? = some o → ∀ e ∈ o.after.toList, Region.binds .any e = true → e.on < j := fun j o ho => edgesOk_lt ops.toList 0 rfl he j o (Nat.zero_le _) ho
  have hanc : ∀ j i, ((masksOf ops.toList []).getD j 0).testBit i = true → Anc ops i j := masks_anc ops.toList [] rfl (by intro j i h; simp at h)
  have hor : ∀ v ∈ os, Ordr ops (masksOf ops.toList []) cf v := by
    intro v hv
    have := List.all_eq_true.1 hg v hv
    simp only [Bool.and_eq_true] at this
    obtain ⟨h1, h2⟩ := this
    obtain ⟨g1, g2, g3⟩ := listOk_spec v [] h1 List.nodup_nil
    refine ⟨by simpa using g1, ?_, g2, ?_⟩
    · intro i hi
      have := List.all_eq_true.1 h2 i (List.mem_range.2 hi)
      obtain ⟨x, hx, hxe⟩ := List.any_eq_true.1 this
      have : i = x := by simpa using hxe
      rw [this]; exact hx
    · intro a i b e o ho
      have := g3 a i b e o ho
      simpa using this
  refine wpIn_region_any hmix ?_
  have hwd : ({ w with drawn := w.drawn + 1 } : World) = w.drew := rfl
  rw [hwd]
  have hS0 : remS (Array.replicate ops.size false) ((List.range ops.size).filter fun i => (List.range ops.size).any fun j => confB cf j i) = (List.range ops.size).filter fun i => (List.range ops.size).any fun j => confB cf j i := by
    unfold remS
    rw [List.filter_eq_self]
    intro i hi
    simp only [List.mem_filter, List.mem_range] at hi
    rw [Array.getD_eq_getD_getElem?, Array.getElem?_replicate, if_pos hi.1]
    rfl
  refine ord_sound ⟨hT, hnt, hC, hE⟩ hF (ms := masksOf ops.toList []) (cf := cf) (k0 := k0) (r := r) hk hlt hanc (S0 := (List.range ops.size).filter fun i => (List.range ops.size).any fun j => confB cf j i) ?_ ops.size _ ops.size os (by simp) ?_ ?_ hsi.drew ?_ ?_ hor ?_
  · intro i j hi hj hc
    simp only [List.mem_filter, List.mem_range]
    exact ⟨hi, List.any_eq_true.2 ⟨j, List.mem_range.2 hj, hc⟩⟩
  · intro j o ho hj
    rw [Array.getD_eq_getD_getElem?, Array.getElem?_replicate] at hj
    split at hj <;> simp at hj
  · unfold remL
    exact Nat.le_trans (List.length_filter_le _ _) (by simp)
  · rw [hS0]; exact hf
  · intro e; rw [e] at hne; cases hne
  · intro v hv
    have : (v.filter fun j => !(Array.replicate ops.size false).getD j true) = v := by
      rw [List.filter_eq_self]
      intro i hi
      rw [Array.getD_eq_getD_getElem?, Array.getElem?_replicate, if_pos ((hor v hv).lt i hi)]
      rfl
    rw [this]
    exact runOs_all os s hs v hv
end
end Go.Abs
