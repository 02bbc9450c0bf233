/- The reference of layer 39 walked: paths, subjects, sentences with another subject, expansions. -/
import Derived.Test.YtfkfcjdoebjlfaaW39
import Derived.Test.YtfkfcjdoebjlfaaI39
import Derived.Test.YtfkfcjdoebjlfaaS39c
namespace Go.Proofs.Ytfkfcjdoebjlfaa
open Go Go.Abs Go.Abs.Asks
set_option linter.unusedVariables false
set_option linter.unusedSimpArgs false
set_option linter.unusedSectionVars false
variable [Asks]

def pathV (n : Nat) : AV := match n with
  | 0 => .d .nils
  | n + 1 => .own (.res 0) 1 (ints (zeros (n + 1)))
def pathOut (t : Tree) : Out := .ret [pathV t.plen, .d (.bool t.subj.isSome)]

theorem path_ev (t : Tree) : t.ok → Ev pr 25 [t.d] (pathOut t) := by
  induction t using Tree.rec' with
  | _ t ih =>
    intro ht
    apply Ev.enter; intro c; (conv => arg 1; ext i; whnf)
    refine Evx.bool (fun h0 => ?_) (fun h0 => ?_)
    · (conv => arg 1; ext i; whnf)
      refine Evx.pure ?_
      have h0 := hold_true.1 h0
      simp only [trees_len, beq_iff_eq] at h0
      have : t.ks = [] := List.length_eq_zero_iff.1 (by omega)
      unfold pathOut
      rw [plen_eq, subj_eq, this]; rfl
    · have h0 := hold_false.1 h0
      simp only [trees_len, beq_eq_false_iff_ne, ne_eq] at h0
      obtain ⟨k, hk⟩ := get_some (l := t.ks) (i := 0) (by omega)
      (conv => arg 1; ext i; whnf)
      refine Evx.bool (fun h => ?_) (fun g1 => ?_)
      · (conv => arg 1; ext i; whnf)
        have hf : frame4 t.fn = true := by have := seq_iff.1 h; rw [this]; decide
        refine Evx.pure ?_
        unfold pathOut
        rw [plen_eq, subj_eq, hk]; simp only [hf, if_true]; rfl
      (conv => arg 1; ext i; whnf)
      refine Evx.bool (fun h => ?_) (fun g2 => ?_)
      · (conv => arg 1; ext i; whnf)
        have hf : frame4 t.fn = true := by have := seq_iff.1 h; rw [this]; decide
        refine Evx.pure ?_
        unfold pathOut
        rw [plen_eq, subj_eq, hk]; simp only [hf, if_true]; rfl
      (conv => arg 1; ext i; whnf)
      refine Evx.bool (fun h => ?_) (fun g3 => ?_)
      · (conv => arg 1; ext i; whnf)
        have hf : frame4 t.fn = true := by have := seq_iff.1 h; rw [this]; decide
        refine Evx.pure ?_
        unfold pathOut
        rw [plen_eq, subj_eq, hk]; simp only [hf, if_true]; rfl
      (conv => arg 1; ext i; whnf)
      refine Evx.bool (fun h => ?_) (fun g4 => ?_)
      · (conv => arg 1; ext i; whnf)
        have hf : frame4 t.fn = true := by have := seq_iff.1 h; rw [this]; decide
        refine Evx.pure ?_
        unfold pathOut
        rw [plen_eq, subj_eq, hk]; simp only [hf, if_true]; rfl
      have hf : frame4 t.fn = false := by
        simp only [frame4, Bool.or_eq_false_iff, decide_eq_false_iff_not]
        exact ⟨⟨⟨seq_ne.1 g1, seq_ne.1 g2⟩, seq_ne.1 g3⟩, seq_ne.1 g4⟩
      (conv => arg 1; ext i; whnf)
      refine Evx.bool (fun h => ?_) (fun g5 => ?_)
      · (conv => arg 1; ext i; whnf)
        have hw : wrap5 t.fn = true := by have := seq_iff.1 h; rw [this]; decide
        refine Evx.idx (m := 0) rfl (trees_get hk) ?_
        (conv => arg 1; ext i; whnf)
        refine Evx.call (ih 0 k hk (ht.kid hk)) ?_
        have hpb := plen_bulk k
        have hkb := Tree.kid_lt hk
        have hok : t.bulk < 2 ^ 30 := ht
        unfold pathOut
        rw [plen_eq t, subj_eq t, hk]; simp only [hf, hw, if_true, Bool.false_eq_true, if_false]
        generalize k.plen = pl at *
        cases pl with
        | zero =>
          (conv => arg 1; ext i; whnf)
          refine Evx.appd rfl (m := (1 + 0) * 9) (by decide) ?_
          (conv => arg 1; ext i; whnf)
          exact Evx.pure rfl
        | succ pl =>
          (conv => arg 1; ext i; whnf)
          refine Evx.appd rfl (m := (1 + (ints (zeros (pl + 1))).length) * 9) (by rw [ints_len, zeros_len]; omega) ?_
          (conv => arg 1; ext i; whnf)
          exact Evx.pure rfl
      (conv => arg 1; ext i; whnf)
      refine Evx.bool (fun h => ?_) (fun g6 => ?_)
      · (conv => arg 1; ext i; whnf)
        have hw : wrap5 t.fn = true := by have := seq_iff.1 h; rw [this]; decide
        refine Evx.idx (m := 0) rfl (trees_get hk) ?_
        (conv => arg 1; ext i; whnf)
        refine Evx.call (ih 0 k hk (ht.kid hk)) ?_
        have hpb := plen_bulk k
        have hkb := Tree.kid_lt hk
        have hok : t.bulk < 2 ^ 30 := ht
        unfold pathOut
        rw [plen_eq t, subj_eq t, hk]; simp only [hf, hw, if_true, Bool.false_eq_true, if_false]
        generalize k.plen = pl at *
        cases pl with
        | zero =>
          (conv => arg 1; ext i; whnf)
          refine Evx.appd rfl (m := (1 + 0) * 9) (by decide) ?_
          (conv => arg 1; ext i; whnf)
          exact Evx.pure rfl
        | succ pl =>
          (conv => arg 1; ext i; whnf)
          refine Evx.appd rfl (m := (1 + (ints (zeros (pl + 1))).length) * 9) (by rw [ints_len, zeros_len]; omega) ?_
          (conv => arg 1; ext i; whnf)
          exact Evx.pure rfl
      (conv => arg 1; ext i; whnf)
      refine Evx.bool (fun h => ?_) (fun g7 => ?_)
      · (conv => arg 1; ext i; whnf)
        have hw : wrap5 t.fn = true := by have := seq_iff.1 h; rw [this]; decide
        refine Evx.idx (m := 0) rfl (trees_get hk) ?_
        (conv => arg 1; ext i; whnf)
        refine Evx.call (ih 0 k hk (ht.kid hk)) ?_
        have hpb := plen_bulk k
        have hkb := Tree.kid_lt hk
        have hok : t.bulk < 2 ^ 30 := ht
        unfold pathOut
        rw [plen_eq t, subj_eq t, hk]; simp only [hf, hw, if_true, Bool.false_eq_true, if_false]
        generalize k.plen = pl at *
        cases pl with
        | zero =>
          (conv => arg 1; ext i; whnf)
          refine Evx.appd rfl (m := (1 + 0) * 9) (by decide) ?_
          (conv => arg 1; ext i; whnf)
          exact Evx.pure rfl
        | succ pl =>
          (conv => arg 1; ext i; whnf)
          refine Evx.appd rfl (m := (1 + (ints (zeros (pl + 1))).length) * 9) (by rw [ints_len, zeros_len]; omega) ?_
          (conv => arg 1; ext i; whnf)
          exact Evx.pure rfl
      (conv => arg 1; ext i; whnf)
      refine Evx.bool (fun h => ?_) (fun g8 => ?_)
      · (conv => arg 1; ext i; whnf)
        have hw : wrap5 t.fn = true := by have := seq_iff.1 h; rw [this]; decide
        refine Evx.idx (m := 0) rfl (trees_get hk) ?_
        (conv => arg 1; ext i; whnf)
        refine Evx.call (ih 0 k hk (ht.kid hk)) ?_
        have hpb := plen_bulk k
        have hkb := Tree.kid_lt hk
        have hok : t.bulk < 2 ^ 30 := ht
        unfold pathOut
        rw [plen_eq t, subj_eq t, hk]; simp only [hf, hw, if_true, Bool.false_eq_true, if_false]
        generalize k.plen = pl at *
        cases pl with
        | zero =>
          (conv => arg 1; ext i; whnf)
          refine Evx.appd rfl (m := (1 + 0) * 9) (by decide) ?_
          (conv => arg 1; ext i; whnf)
          exact Evx.pure rfl
        | succ pl =>
          (conv => arg 1; ext i; whnf)
          refine Evx.appd rfl (m := (1 + (ints (zeros (pl + 1))).length) * 9) (by rw [ints_len, zeros_len]; omega) ?_
          (conv => arg 1; ext i; whnf)
          exact Evx.pure rfl
      (conv => arg 1; ext i; whnf)
      refine Evx.bool (fun h => ?_) (fun g9 => ?_)
      · (conv => arg 1; ext i; whnf)
        have hw : wrap5 t.fn = true := by have := seq_iff.1 h; rw [this]; decide
        refine Evx.idx (m := 0) rfl (trees_get hk) ?_
        (conv => arg 1; ext i; whnf)
        refine Evx.call (ih 0 k hk (ht.kid hk)) ?_
        have hpb := plen_bulk k
        have hkb := Tree.kid_lt hk
        have hok : t.bulk < 2 ^ 30 := ht
        unfold pathOut
        rw [plen_eq t, subj_eq t, hk]; simp only [hf, hw, if_true, Bool.false_eq_true, if_false]
        generalize k.plen = pl at *
        cases pl with
        | zero =>
          (conv => arg 1; ext i; whnf)
          refine Evx.appd rfl (m := (1 + 0) * 9) (by decide) ?_
          (conv => arg 1; ext i; whnf)
          exact Evx.pure rfl
        | succ pl =>
          (conv => arg 1; ext i; whnf)
          refine Evx.appd rfl (m := (1 + (ints (zeros (pl + 1))).length) * 9) (by rw [ints_len, zeros_len]; omega) ?_
          (conv => arg 1; ext i; whnf)
          exact Evx.pure rfl
      (conv => arg 1; ext i; whnf)
      have hw : wrap5 t.fn = false := by
        simp only [wrap5, Bool.or_eq_false_iff, decide_eq_false_iff_not]
        exact ⟨⟨⟨⟨seq_ne.1 g5, seq_ne.1 g6⟩, seq_ne.1 g7⟩, seq_ne.1 g8⟩, seq_ne.1 g9⟩
      refine Evx.pure ?_
      unfold pathOut
      rw [plen_eq t, subj_eq t, hk]; simp only [hf, hw, Bool.false_eq_true, if_false]; rfl

/-- The cells of a box that holds nothing yet. -/
def zeroBox : Box := ⟨[.d (.str (ByteArray.mk #[])), .d .nils, .d .nils], false⟩

theorem down_some {n : Nat} {t s : Tree} (h : down (n + 1) t = some s) : ∃ k, t.ks[0]? = some k ∧ down n k = some s := by
  unfold down at h
  cases hk : t.ks[0]? with
  | none => rw [hk] at h; cases h
  | some k => rw [hk] at h; exact ⟨k, rfl, h⟩

theorem rAt_ev (t s : Tree) (n : Nat) (hn : n < 2 ^ 30) (ht : t.ok) (hd : down n t = some s) : Ev pr 49 [t.d, .sl 1 (ints (zeros n))] (.ret [.d s.d, .d (.bool true)]) := by
  apply Ev.enter; intro c; (conv => arg 1; ext i; whnf)
  refine (Evx.loop hint49 2 (α := { p : Nat × Tree // p.1 ≤ n ∧ p.2.ok ∧ down (n - p.1) p.2 = some s }) (fun a => [some (.d (.sl 1 (ints (zeros n)))), some (.ptr 1 2 0), some (.ptr 1 4 0), some (.d (.int .i64 a.1.1))]) (fun a => [some (treeBox a.1.2), some zeroBox]) 1 [] (fun a => n - a.1.1) (fun a => .ret [.d s.d, .d (.bool true)]) ?_ ⟨(0, t), Nat.zero_le _, ht, hd⟩ (fun _ => rfl) (fun _ => rfl) (fun _ => rfl) (fun _ => by kernel_rfl)).to rfl
  rintro ⟨⟨a, u⟩, hle, hu, hdn⟩ bx L ih; (conv => arg 1; ext i; whnf)
  dsimp only at hle hu hdn
  refine Evx.bool (fun h2 => ?_) (fun h2 => ?_)
  · have h2 := hold_true.1 h2
    simp only [ints_len, zeros_len, decide_eq_true_eq] at h2
    obtain ⟨k, hk, hdk⟩ := down_some (n := n - a - 1) (by rw [show n - a - 1 + 1 = n - a by omega]; exact hdn)
    (conv => arg 1; ext i; whnf)
    refine Evx.idx (m := a) rfl (ints_get (zeros_get (by omega))) ?_
    (conv => arg 1; ext i; whnf)
    refine Evx.bool (fun h3 => ?_) (fun h3 => ?_)
    · exact absurd (hold_true.1 h3) (by decide)
    (conv => arg 1; ext i; whnf)
    refine Evx.idx (m := a) rfl (ints_get (zeros_get (by omega))) ?_
    (conv => arg 1; ext i; whnf)
    refine Evx.bool (fun h3 => ?_) (fun h3 => ?_)
    · have h3 := hold_true.1 h3
      have := (List.getElem?_eq_some_iff.1 hk).1
      simp only [trees_len, ge_iff_le, decide_eq_true_eq] at h3
      omega
    (conv => arg 1; ext i; whnf)
    refine Evx.idx (m := a) rfl (ints_get (zeros_get (by omega))) ?_
    (conv => arg 1; ext i; whnf)
    refine Evx.idx (m := 0) rfl (trees_get hk) ?_
    (conv => arg 1; ext i; whnf)
    refine Evx.int (wrap_succ (n := a) (by omega)) ?_
    (conv => arg 1; ext i; whnf)
    exact ih ⟨(a + 1, k), by omega, hu.kid hk, by dsimp only; rw [show n - (a + 1) = n - a - 1 by omega]; exact hdk⟩ _ (by dsimp only; omega) (fun _ => by kernel_rfl)
  · have h2 := hold_false.1 h2
    simp only [ints_len, zeros_len, decide_eq_false_iff_not] at h2
    have : n - a = 0 := by omega
    rw [this] at hdn
    cases hdn
    (conv => arg 1; ext i; whnf)
    exact Evx.pure rfl

theorem put_ok : ∀ (n : Nat) (t u : Tree), (put n t u).bulk ≤ t.bulk + u.bulk
  | 0, t, u => by simp only [put]; omega
  | n + 1, t, u => by
    unfold put
    split
    · omega
    · rename_i k ks hk
      have := put_ok n k u
      rw [Tree.bulk_eq, t.bulk_eq, hk]
      simp only [Tree.vs, Tree.ks, bulks]
      omega
theorem put_succ {n : Nat} {t k u : Tree} {r : List Tree} (h : t.ks = k :: r) : put (n + 1) t u = .node t.fn t.vs (put n k u :: r) := by
  conv => lhs; unfold put
  rw [h]
theorem rReplace_ev : ∀ (n : Nat) (t s u : Tree), n < 2 ^ 30 → t.ok → down n t = some s → Ev pr 46 [t.d, .sl 1 (ints (zeros n)), u.d] (.ret [.d (put n t u).d, .d (.bool true)])
  | 0, t, s, u, hn, ht, hd => by
    apply Ev.enter; intro c; (conv => arg 1; ext i; whnf)
    refine Evx.bool (fun h => ?_) (fun h => ?_)
    · (conv => arg 1; ext i; whnf)
      exact Evx.pure rfl
    · exact absurd (hold_false.1 h) (by decide)
  | n + 1, t, s, u, hn, ht, hd => by
    obtain ⟨k, hk, hdk⟩ := down_some hd
    have hkl := (List.getElem?_eq_some_iff.1 hk).1
    have ih := rReplace_ev n k s u (by omega) (ht.kid hk) hdk
    have hl := ht.ks
    apply Ev.enter; intro c; (conv => arg 1; ext i; whnf)
    refine Evx.bool (fun h => ?_) (fun h => ?_)
    · have h := hold_true.1 h
      simp only [ints_len, zeros_len, beq_iff_eq] at h
      omega
    (conv => arg 1; ext i; whnf)
    refine Evx.idx (m := 0) rfl (ints_get (zeros_get (by omega))) ?_
    (conv => arg 1; ext i; whnf)
    refine Evx.bool (fun h3 => ?_) (fun h3 => ?_)
    · exact absurd (hold_true.1 h3) (by decide)
    (conv => arg 1; ext i; whnf)
    refine Evx.idx (m := 0) rfl (ints_get (zeros_get (by omega))) ?_
    (conv => arg 1; ext i; whnf)
    refine Evx.bool (fun h3 => ?_) (fun h3 => ?_)
    · have h3 := hold_true.1 h3
      simp only [trees_len, ge_iff_le, decide_eq_true_eq] at h3
      omega
    (conv => arg 1; ext i; whnf)
    refine Evx.idx (m := 0) rfl (ints_get (zeros_get (by omega))) ?_
    (conv => arg 1; ext i; whnf)
    refine Evx.idx (m := 0) rfl (trees_get hk) ?_
    (conv => arg 1; ext i; whnf)
    refine Evx.mustP (by simp only [Option.getD, ints_len, zeros_len]; omega) ?_
    (conv => arg 1; ext i; whnf)
    have hsl : ((ints (zeros (n + 1))).take (Int.toNat ((ints (zeros (n + 1))).length : Int))).drop (Int.toNat 1) = ints (zeros n) := by
      rw [take_all]; rfl
    rw [← hsl] at ih
    refine Evx.call ih ?_
    (conv => arg 1; ext i; whnf)
    refine Evx.appR rfl (m := (0 + (trees t.ks).length) * 65) (by rw [trees_len]; omega) rfl ?_
    (conv => arg 1; ext i; whnf)
    refine Evx.idx (m := 0) rfl (ints_get (zeros_get (by omega))) ?_
    (conv => arg 1; ext i; whnf)
    refine Evx.idx (m := 0) rfl (trees_get hk) ?_
    (conv => arg 1; ext i; whnf)
    refine Evx.must (by simp [trees_len]; omega) ?_
    (conv => arg 1; ext i; whnf)
    refine Evx.pure ?_
    have hks : t.ks = k :: t.ks.drop 1 := by
      cases hh : t.ks with
      | nil => rw [hh] at hk; simp at hk
      | cons a b => rw [hh] at hk; simp at hk; subst hk; rfl
    rw [put_succ hks]
    generalize put n k u = q
    generalize t.ks.drop 1 = r at hks
    rw [hks, d_node, trees_cons, trees_cons]
    rfl

theorem rSubject_ev (t s : Tree) (ht : t.ok) (hs : t.subj = some s) : Ev pr 31 [t.d] (.ret [.d s.d]) := by
  obtain ⟨hd, h0⟩ := subj_down t s hs
  have hb := plen_bulk t
  have hok : t.bulk < 2 ^ 30 := ht
  have e1 := path_ev t ht
  have e2 := rAt_ev t s t.plen (by omega) ht hd
  unfold pathOut at e1
  generalize t.plen = n at *
  cases n with
  | zero => exact absurd rfl h0
  | succ n =>
    apply Ev.enter; intro c; (conv => arg 1; ext i; whnf)
    refine Evx.call e1 ?_
    (conv => arg 1; ext i; whnf)
    refine Evx.call e2 ?_
    (conv => arg 1; ext i; whnf)
    exact Evx.pure rfl

theorem rWith_ev (t s np : Tree) (ht : t.ok) (hs : t.subj = some s) : Ev pr 29 [t.d, np.d] (.ret [.d (t.withSubj np).d]) := by
  obtain ⟨hd, h0⟩ := subj_down t s hs
  have hb := plen_bulk t
  have hok : t.bulk < 2 ^ 30 := ht
  have e1 := path_ev t ht
  have e2 := rReplace_ev t.plen t s np (by omega) ht hd
  rw [with_put np t s hs] at e2
  unfold pathOut at e1
  generalize t.plen = n at *
  cases n with
  | zero => exact absurd rfl h0
  | succ n =>
    apply Ev.enter; intro c; (conv => arg 1; ext i; whnf)
    refine Evx.call e1 ?_
    (conv => arg 1; ext i; whnf)
    refine Evx.call e2 ?_
    (conv => arg 1; ext i; whnf)
    exact Evx.pure rfl

def alsoB (t : Tree) : Bool := decide (t.fn = sAlso) && decide (t.ks.length = 2)
theorem alsoB_iff (t : Tree) : alsoB t = true ↔ t.depth ≠ 0 := by
  unfold alsoB
  simp only [Bool.and_eq_true, decide_eq_true_eq]
  constructor
  · rintro ⟨h1, h2⟩
    obtain ⟨k, np, _, h⟩ := depth_kids h1 h2
    omega
  · intro h
    obtain ⟨d, hd⟩ := Nat.exists_eq_succ_of_ne_zero h
    obtain ⟨h1, k, np, hk, _⟩ := depth_succ hd
    exact ⟨h1, by rw [hk]; rfl⟩
theorem also_ev (t : Tree) : Ev pr 34 [t.d] (.ret [.d (.bool (alsoB t))]) := by
  apply Ev.enter; intro c; (conv => arg 1; ext i; whnf)
  refine Evx.bool (fun h1 => ?_) (fun h1 => ?_)
  · (conv => arg 1; ext i; whnf)
    refine Evx.pure ?_
    rw [hold_eq, trees_len, alsoB, decide_eq_true (show t.fn = sAlso from seq_iff.1 h1), Bool.true_and]
    congr 4
    by_cases h : t.ks.length = 2
    · simp [h]
    · simp [h]; omega
  · (conv => arg 1; ext i; whnf)
    refine Evx.pure ?_
    rw [alsoB, decide_eq_false (show ¬ t.fn = sAlso from seq_ne.1 h1), Bool.false_and]
theorem rDepth_ev (t : Tree) (ht : t.ok) : Ev pr 35 [t.d] (.ret [.d (.int .i64 t.depth)]) := by
  have hbd : ∀ (n : Nat) (t : Tree), t.bulk < n → t.depth ≤ t.bulk := by
    intro n
    induction n with
    | zero => intro t h; omega
    | succ n ih =>
      intro t h
      cases hd : t.depth with
      | zero => omega
      | succ d =>
        obtain ⟨_, k, np, hk, hkd⟩ := depth_succ hd
        have := Tree.kid_lt (t := t) (u := k) (i := 0) (by rw [hk]; rfl)
        have := ih k (by omega)
        omega
  have hdb := hbd (t.bulk + 1) t (Nat.lt_succ_self _)
  have hok : t.bulk < 2 ^ 30 := ht
  apply Ev.enter; intro c; (conv => arg 1; ext i; whnf)
  refine (Evx.loop hint35 2 (α := { p : Nat × Tree // p.1 + p.2.depth = t.depth ∧ p.2.ok }) (fun a => [some (.ptr 1 1 0), some (.d (.int .i64 a.1.1))]) (fun a => [some (treeBox a.1.2)]) 1 [] (fun a => a.1.2.depth) (fun a => .ret [.d (.int .i64 t.depth)]) ?_ ⟨(0, t), by simp, ht⟩ (fun _ => rfl) (fun _ => rfl) (fun _ => rfl) (fun _ => by kernel_rfl)).to rfl
  rintro ⟨⟨a, u⟩, hle, hu⟩ bx L ih; (conv => arg 1; ext i; whnf)
  dsimp only at hle hu
  refine Evx.call (also_ev u) ?_
  (conv => arg 1; ext i; whnf)
  refine Evx.bool (fun h2 => ?_) (fun h2 => ?_)
  · have h2 := (alsoB_iff u).1 h2
    obtain ⟨d, hd⟩ := Nat.exists_eq_succ_of_ne_zero h2
    obtain ⟨h1, k, np, hk, hkd⟩ := depth_succ hd
    have hk0 : u.ks[0]? = some k := by rw [hk]; rfl
    (conv => arg 1; ext i; whnf)
    refine Evx.int (wrap_succ (n := a) (by omega)) ?_
    (conv => arg 1; ext i; whnf)
    refine Evx.idx (m := 0) rfl (trees_get hk0) ?_
    (conv => arg 1; ext i; whnf)
    exact ih ⟨(a + 1, k), by dsimp only; omega, hu.kid hk0⟩ _ (by dsimp only; omega) (fun _ => by kernel_rfl)
  · have h2 : u.depth = 0 := by
      have := mt (alsoB_iff u).2 (by rw [h2]; exact Bool.false_ne_true)
      omega
    (conv => arg 1; ext i; whnf)
    refine Evx.pure ?_
    have : a = t.depth := by omega
    dsimp only
    rw [this]

/-- The whole expansion. -/
def exF : Nat → Tree → List Tree
  | 0, t => [t]
  | d + 1, t => match t.ks with
    | [k, np] => exF d k ++ exF d (k.withSubj np)
    | _ => [t]
theorem exF_len : ∀ (d : Nat) (t : Tree), t.depth = d → (d = 0 ∨ t.subj.isSome = true) → (exF d t).length = 2 ^ d
  | 0, t, _, _ => rfl
  | d + 1, t, hd, hs => by
    obtain ⟨h1, k, np, hk, hkd⟩ := depth_succ hd
    have hks : k.subj.isSome = true := by
      rcases hs with hs | hs
      · cases hs
      · rwa [depth_subj_kid h1 hk] at hs
    obtain ⟨s, hsk⟩ := Option.isSome_iff_exists.1 hks
    have e1 := exF_len d k hkd (.inr hks)
    have e2 := exF_len d (k.withSubj np) (by rw [depth_with k np s hsk]; exact hkd) (.inr (by rw [subj_with k np s hsk]; rfl))
    simp only [exF, hk]
    rw [List.length_append, e1, e2, Nat.pow_succ]; omega
theorem exL_full : ∀ (d : Nat) (t : Tree), d ≤ 8 → t.depth = d → (d = 0 ∨ t.subj.isSome = true) → exL d t = exF d t
  | 0, t, _, _, _ => rfl
  | d + 1, t, h8, hd, hs => by
    obtain ⟨h1, k, np, hk, hkd⟩ := depth_succ hd
    have hks : k.subj.isSome = true := by
      rcases hs with hs | hs
      · cases hs
      · rwa [depth_subj_kid h1 hk] at hs
    obtain ⟨s, hsk⟩ := Option.isSome_iff_exists.1 hks
    have e1 := exL_full d k (by omega) hkd (.inr hks)
    have e2 := exL_full d (k.withSubj np) (by omega) (by rw [depth_with k np s hsk]; exact hkd) (.inr (by rw [subj_with k np s hsk]; rfl))
    have l1 := exF_len d k hkd (.inr hks)
    have hp : 2 ^ d ≤ 2 ^ 8 := Nat.pow_le_pow_right (by omega) (by omega)
    simp only [exL, exF, hk]
    rw [e1, e2, if_neg (by rw [l1]; omega)]
theorem expansion_ev : ∀ (d : Nat) (t : Tree), d ≤ 8 → t.depth = d → t.ok → (d = 0 ∨ t.subj.isSome = true) → Ev pr 36 [t.d] (.ret [.own (.res 0) 3 (trees (exF d t))])
  | 0, t, _, hd, ht, _ => by
    apply Ev.enter; intro c; (conv => arg 1; ext i; whnf)
    refine Evx.call (also_ev t) ?_
    (conv => arg 1; ext i; whnf)
    refine Evx.bool (fun h1 => ?_) (fun h1 => ?_)
    · (conv => arg 1; ext i; whnf)
      refine Evx.pure ?_
      rw [show exF 0 t = [t] from rfl, trees_cons]; rfl
    · exfalso
      simp only [Bool.not_eq_false'] at h1
      exact (alsoB_iff t).1 h1 hd
  | d + 1, t, h8, hd, ht, hs => by
    obtain ⟨h1, k, np, hk, hkd⟩ := depth_succ hd
    have hks : k.subj.isSome = true := by
      rcases hs with hs | hs
      · cases hs
      · rwa [depth_subj_kid h1 hk] at hs
    obtain ⟨s, hsk⟩ := Option.isSome_iff_exists.1 hks
    have k0 : t.ks[0]? = some k := by rw [hk]; rfl
    have k1 : t.ks[1]? = some np := by rw [hk]; rfl
    have hko := ht.kid k0
    have huo : (k.withSubj np).ok := by
      have := bulk_with k np
      unfold Tree.ok at ht ⊢
      rw [t.bulk_eq, hk] at ht; simp only [bulks] at ht; omega
    have e1 := expansion_ev d k (by omega) hkd hko (.inr hks)
    have e2 := expansion_ev d (k.withSubj np) (by omega) (by rw [depth_with k np s hsk]; exact hkd) huo (.inr (by rw [subj_with k np s hsk]; rfl))
    have l1 := exF_len d k hkd (.inr hks)
    have l2 := exF_len d (k.withSubj np) (by rw [depth_with k np s hsk]; exact hkd) (.inr (by rw [subj_with k np s hsk]; rfl))
    have hp : 2 ^ d ≤ 2 ^ 8 := Nat.pow_le_pow_right (by omega) (by omega)
    apply Ev.enter; intro c; (conv => arg 1; ext i; whnf)
    refine Evx.call (also_ev t) ?_
    (conv => arg 1; ext i; whnf)
    refine Evx.bool (fun h2 => ?_) (fun h2 => ?_)
    · exfalso
      simp only [Bool.not_eq_true'] at h2
      have := (alsoB_iff t).2 (by omega)
      rw [h2] at this; cases this
    (conv => arg 1; ext i; whnf)
    refine Evx.idx (m := 0) rfl (trees_get k0) ?_
    (conv => arg 1; ext i; whnf)
    refine Evx.call e1 ?_
    (conv => arg 1; ext i; whnf)
    refine Evx.idx (m := 0) rfl (trees_get k0) ?_
    (conv => arg 1; ext i; whnf)
    refine Evx.idx (m := 1) rfl (trees_get k1) ?_
    (conv => arg 1; ext i; whnf)
    refine Evx.call (rWith_ev k s np hko hsk) ?_
    (conv => arg 1; ext i; whnf)
    refine Evx.call e2 ?_
    (conv => arg 1; ext i; whnf)
    refine Evx.appd rfl (m := ((trees (exF d k)).length + (trees (exF d (k.withSubj np))).length) * 65) (by rw [trees_len, trees_len]; omega) ?_
    (conv => arg 1; ext i; whnf)
    refine Evx.pure ?_
    rw [show exF (d + 1) t = exF d k ++ exF d (k.withSubj np) by simp only [exF, hk], trees_app]
    rfl

def expR (t : Tree) : Out := if t.depth ≠ 0 ∧ t.subj = none then .ret [.d .nils, .d (.int .i64 6)] else if 8 < t.depth then .ret [.d .nils, .d (.int .i64 2)] else .ret [.own (.res 0) 3 (trees (exF t.depth t)), .d (.int .i64 0)]
theorem rExpand_ev (t : Tree) (ht : t.ok) : Ev pr 14 [t.d] (expR t) := by
  have e1 := path_ev t ht
  unfold pathOut at e1
  generalize t.plen = n at *
  unfold expR
  apply Ev.enter; intro c; (conv => arg 1; ext i; whnf)
  refine Evx.call e1 ?_
  cases n with
  | zero =>
    (conv => arg 1; ext i; whnf)
    refine Evx.call (also_ev t) ?_
    (conv => arg 1; ext i; whnf)
    refine Evx.bool (fun h1 => ?_) (fun h1 => ?_)
    · have hd := (alsoB_iff t).1 h1
      cases hs : t.subj with
      | none =>
        rw [if_pos ⟨hd, rfl⟩]
        (conv => arg 1; ext i; whnf)
        exact Evx.pure rfl
      | some s =>
        rw [if_neg (fun h => by cases h.2)]
        (conv => arg 1; ext i; whnf)
        refine Evx.call (rDepth_ev t ht) ?_
        (conv => arg 1; ext i; whnf)
        refine Evx.bool (fun h2 => ?_) (fun h2 => ?_)
        · have h2 := hold_true.1 h2
          simp only [gt_iff_lt, decide_eq_true_eq] at h2
          (conv => arg 1; ext i; whnf)
          refine Evx.pure ?_
          rw [if_pos (show 8 < t.depth by omega)]
        · have h2 := hold_false.1 h2
          simp only [gt_iff_lt, decide_eq_false_iff_not] at h2
          (conv => arg 1; ext i; whnf)
          refine Evx.call (expansion_ev t.depth t (by omega) rfl ht (.inr (by rw [hs]; rfl))) ?_
          (conv => arg 1; ext i; whnf)
          refine Evx.pure ?_
          rw [if_neg (show ¬ 8 < t.depth by omega)]
          rfl
    · have hd : t.depth = 0 := by
        have := mt (alsoB_iff t).2 (by rw [h1]; exact Bool.false_ne_true)
        omega
      rw [if_neg (fun h => h.1 hd)]
      (conv => arg 1; ext i; whnf)
      refine Evx.call (rDepth_ev t ht) ?_
      (conv => arg 1; ext i; whnf)
      refine Evx.bool (fun h2 => ?_) (fun h2 => ?_)
      · have h2 := hold_true.1 h2
        simp only [gt_iff_lt, decide_eq_true_eq] at h2
        (conv => arg 1; ext i; whnf)
        refine Evx.pure ?_
        rw [if_pos (show 8 < t.depth by omega)]
      · have h2 := hold_false.1 h2
        simp only [gt_iff_lt, decide_eq_false_iff_not] at h2
        (conv => arg 1; ext i; whnf)
        refine Evx.call (expansion_ev t.depth t (by omega) rfl ht (.inl hd)) ?_
        (conv => arg 1; ext i; whnf)
        refine Evx.pure ?_
        rw [if_neg (show ¬ 8 < t.depth by omega)]
        rfl
  | succ n =>
    (conv => arg 1; ext i; whnf)
    refine Evx.call (also_ev t) ?_
    (conv => arg 1; ext i; whnf)
    refine Evx.bool (fun h1 => ?_) (fun h1 => ?_)
    · have hd := (alsoB_iff t).1 h1
      cases hs : t.subj with
      | none =>
        rw [if_pos ⟨hd, rfl⟩]
        (conv => arg 1; ext i; whnf)
        exact Evx.pure rfl
      | some s =>
        rw [if_neg (fun h => by cases h.2)]
        (conv => arg 1; ext i; whnf)
        refine Evx.call (rDepth_ev t ht) ?_
        (conv => arg 1; ext i; whnf)
        refine Evx.bool (fun h2 => ?_) (fun h2 => ?_)
        · have h2 := hold_true.1 h2
          simp only [gt_iff_lt, decide_eq_true_eq] at h2
          (conv => arg 1; ext i; whnf)
          refine Evx.pure ?_
          rw [if_pos (show 8 < t.depth by omega)]
        · have h2 := hold_false.1 h2
          simp only [gt_iff_lt, decide_eq_false_iff_not] at h2
          (conv => arg 1; ext i; whnf)
          refine Evx.call (expansion_ev t.depth t (by omega) rfl ht (.inr (by rw [hs]; rfl))) ?_
          (conv => arg 1; ext i; whnf)
          refine Evx.pure ?_
          rw [if_neg (show ¬ 8 < t.depth by omega)]
          rfl
    · have hd : t.depth = 0 := by
        have := mt (alsoB_iff t).2 (by rw [h1]; exact Bool.false_ne_true)
        omega
      rw [if_neg (fun h => h.1 hd)]
      (conv => arg 1; ext i; whnf)
      refine Evx.call (rDepth_ev t ht) ?_
      (conv => arg 1; ext i; whnf)
      refine Evx.bool (fun h2 => ?_) (fun h2 => ?_)
      · have h2 := hold_true.1 h2
        simp only [gt_iff_lt, decide_eq_true_eq] at h2
        (conv => arg 1; ext i; whnf)
        refine Evx.pure ?_
        rw [if_pos (show 8 < t.depth by omega)]
      · have h2 := hold_false.1 h2
        simp only [gt_iff_lt, decide_eq_false_iff_not] at h2
        (conv => arg 1; ext i; whnf)
        refine Evx.call (expansion_ev t.depth t (by omega) rfl ht (.inl hd)) ?_
        (conv => arg 1; ext i; whnf)
        refine Evx.pure ?_
        rw [if_neg (show ¬ 8 < t.depth by omega)]
        rfl

def parR (t u : Tree) : Bool := match t.subj, u.subj with
  | some a, some b => !(a.same b) && (t.withSubj b).same u
  | _, _ => false
theorem parR_eq (t u : Tree) : parR t u = parB t u := by
  unfold parR parB
  cases t.subj with
  | none => rfl
  | some a =>
    cases u.subj with
    | none => rfl
    | some b =>
      dsimp only
      rw [Tree.same_eq (t.withSubj b) u, Tree.same_eq u (t.withSubj b)]
      congr 1
      exact decide_eq_decide.2 eq_comm
theorem rParallel_ev (t u : Tree) (ht : t.bulk < 2 ^ 29) (hu : u.bulk < 2 ^ 29) : Ev pr 22 [t.d, u.d] (.ret [.d (.bool (parB t u))]) := by
  rw [← parR_eq]
  have hto : t.ok := by unfold Tree.ok; omega
  have huo : u.ok := by unfold Tree.ok; omega
  have e1 := path_ev t hto
  have e2 := path_ev u huo
  unfold pathOut at e1 e2
  unfold parR
  generalize hn : t.plen = n at e1
  generalize hm : u.plen = m at e2
  apply Ev.enter; intro c; (conv => arg 1; ext i; whnf)
  refine Evx.call e1 ?_
  cases n with
  | zero =>
    (conv => arg 1; ext i; whnf)
    refine Evx.call e2 ?_
    have hs : t.subj = none := by
      cases hs : t.subj with
      | none => rfl
      | some s => exact absurd hn (subj_down t s hs).2
    rw [hs]
    cases m with
    | zero => (conv => arg 1; ext i; whnf); exact Evx.pure rfl
    | succ m => (conv => arg 1; ext i; whnf); exact Evx.pure rfl
  | succ n =>
    (conv => arg 1; ext i; whnf)
    refine Evx.call e2 ?_
    cases hs : t.subj with
    | none => 
      cases m with
      | zero => (conv => arg 1; ext i; whnf); exact Evx.pure rfl
      | succ m => (conv => arg 1; ext i; whnf); exact Evx.pure rfl
    | some a =>
      cases hs2 : u.subj with
      | none =>
        cases m with
        | zero => (conv => arg 1; ext i; whnf); exact Evx.pure rfl
        | succ m => (conv => arg 1; ext i; whnf); exact Evx.pure rfl
      | some b =>
        have hao : a.ok := by have := subj_bulk t a hs; unfold Tree.ok; omega
        have hwo : (t.withSubj b).ok := by
          have h1 := bulk_with t b
          have h2 := subj_bulk u b hs2
          unfold Tree.ok
          omega
        cases m with
        | zero => exact absurd hm (subj_down u b hs2).2
        | succ m =>
          (conv => arg 1; ext i; whnf)
          refine Evx.call (rSubject_ev t a hto hs) ?_
          (conv => arg 1; ext i; whnf)
          refine Evx.call (rSubject_ev u b huo hs2) ?_
          (conv => arg 1; ext i; whnf)
          refine Evx.call (rSame_ev a b hao) ?_
          (conv => arg 1; ext i; whnf)
          cases hab : a.same b with
          | true => (conv => arg 1; ext i; whnf); refine Evx.pure ?_; dsimp only; rw [hab]; rfl
          | false =>
            (conv => arg 1; ext i; whnf)
            refine Evx.call (rSubject_ev u b huo hs2) ?_
            (conv => arg 1; ext i; whnf)
            refine Evx.call (rWith_ev t a b hto hs) ?_
            (conv => arg 1; ext i; whnf)
            refine Evx.call (rSame_ev (t.withSubj b) u hwo) ?_
            (conv => arg 1; ext i; whnf)
            refine Evx.pure ?_
            dsimp only; rw [hab]; rfl
/-- The notices that the reference makes, from the i-th on. -/
def introRA (ts : List Tree) (i : Nat) : List (List Tree) := match ts[i]?, ts[i + 1]? with
  | some a, some b => if parB a b = true then match b.subj with
      | some np => if (alsoT a np).size ≤ 60 then [ts.take i ++ [alsoT a np] ++ ts.drop (i + 2)] else []
      | none => []
    else []
  | _, _ => []
def introR (ts : List Tree) : Nat → List (List Tree)
  | 0 => []
  | k + 1 => introR ts k ++ introRA ts k
theorem introR_len (ts : List Tree) : ∀ k, (introR ts k).length ≤ k
  | 0 => Nat.le_refl _
  | k + 1 => by
    have := introR_len ts k
    have h1 : (introRA ts k).length ≤ 1 := by
      unfold introRA
      split
      · split
        · split
          · split <;> simp
          · simp
        · simp
      · simp
    simp only [introR, List.length_append]
    omega
theorem rIntroduce_ev (ts : List Tree) (hb : bulks ts < 2 ^ 21) : Ev pr 18 [.sl 3 (trees ts)] (.ret [.own (.res 0) 1 (lists (introR ts (ts.length - 1)))]) := by
  have hl := bulks_len ts
  have ho : ∀ (i : Nat) t, ts[i]? = some t → t.bulk < 2 ^ 21 := by
    intro i t h; have := bulk_get h; omega
  apply Ev.enter; intro c; (conv => arg 1; ext i; whnf)
  refine (Evx.loop hint18 3 (α := { i : Nat // i ≤ ts.length }) (fun i => [some (.d (.sl 3 (trees ts))), some (.own (.tmp 1 3 0) 1 (lists (introR ts i.1))), some (.d (.int .i64 i.1))]) (fun _ => []) 1 [] (fun i => ts.length - i.1) (fun i => .ret [.own (.res 0) 1 (lists (introR ts (if i.1 ≤ ts.length - 1 then ts.length - 1 else i.1)))]) ?_ ⟨0, Nat.zero_le _⟩ (fun _ => rfl) (fun _ => rfl) (fun _ => rfl) (fun _ => by kernel_rfl)).to (by
    rw [if_pos (Nat.zero_le _)])
  rintro ⟨i, hi⟩ bx L ih
  have hlen := introR_len ts i
  (conv => arg 1; ext i; whnf)
  refine Evx.int (wrap_succ (n := i) (by omega)) ?_
  (conv => arg 1; ext i; whnf)
  refine Evx.bool (fun h2 => ?_) (fun h2 => ?_)
  · have h2 := hold_true.1 h2
    simp only [trees_len, decide_eq_true_eq] at h2
    obtain ⟨a, ha⟩ := get_some (l := ts) (i := i) (by omega)
    obtain ⟨b, hbb⟩ := get_some (l := ts) (i := i + 1) (by omega)
    have hao := ho i a ha
    have hbo := ho (i + 1) b hbb
    rw [if_pos (by dsimp only; omega)]
    have next : introRA ts i = [] → ∀ (s : Nat → St), (∀ j, headAll hint18 3 (s j) = (true, [some (.d (.sl 3 (trees ts))), some (.own (.tmp 1 3 0) 1 (lists (introR ts i))), some (.d (.int .i64 ((i + 1 : Nat) : Int)))], [], 1, [])) → Evx (fun j => L j (s j)) (.ret [.own (.res 0) 1 (lists (introR ts (ts.length - 1)))]) := by
      intro h0 s hs
      refine (ih ⟨i + 1, by omega⟩ s (by dsimp only; omega) ?_).to ?_
      · intro j
        rw [hs j]
        dsimp only
        rw [show introR ts (i + 1) = introR ts i by simp only [introR, h0, List.append_nil]]
      · dsimp only
        rw [if_pos (by omega)]
    (conv => arg 1; ext i; whnf)
    refine Evx.idx (m := i) rfl (trees_get ha) ?_
    (conv => arg 1; ext i; whnf)
    refine Evx.int (wrap_succ (n := i) (by omega)) ?_
    (conv => arg 1; ext i; whnf)
    refine Evx.idx (m := i + 1) rfl (trees_get hbb) ?_
    (conv => arg 1; ext i; whnf)
    refine Evx.call (rParallel_ev a b (by omega) (by omega)) ?_
    (conv => arg 1; ext i; whnf)
    refine Evx.bool (fun h3 => ?_) (fun h3 => ?_)
    · simp only [Bool.not_eq_true'] at h3
      have h0 : introRA ts i = [] := by
        unfold introRA; rw [ha, hbb]; dsimp only; rw [if_neg (by rw [h3]; decide)]
      (conv => arg 1; ext i; whnf)
      refine Evx.int (wrap_succ (n := i) (by omega)) ?_
      (conv => arg 1; ext i; whnf)
      exact next h0 _ (fun _ => by kernel_rfl)
    simp only [Bool.not_eq_false'] at h3
    obtain ⟨np, hnp⟩ : ∃ np, b.subj = some np := by
      cases hq : b.subj with
      | none => cases hqa : a.subj <;> simp [parB, hq, hqa] at h3
      | some np => exact ⟨np, rfl⟩
    have hnb := subj_bulk b np hnp
    have hto : (alsoT a np).ok := by unfold Tree.ok alsoT; simp only [Tree.bulk, bulks, List.length_nil]; omega
    (conv => arg 1; ext i; whnf)
    refine Evx.idx (m := i) rfl (trees_get ha) ?_
    (conv => arg 1; ext i; whnf)
    refine Evx.int (wrap_succ (n := i) (by omega)) ?_
    (conv => arg 1; ext i; whnf)
    refine Evx.idx (m := i + 1) rfl (trees_get hbb) ?_
    (conv => arg 1; ext i; whnf)
    refine Evx.call (rSubject_ev b np (by unfold Tree.ok; omega) hnp) ?_
    (conv => arg 1; ext i; whnf)
    have es := rSize_ev (alsoT a np) hto
    rw [show (alsoT a np).d = .agg [.str sAlso, .sl 1 [], .sl 3 [[.str a.fn, .sl 1 (ints a.vs), .sl 3 (trees a.ks)], [.str np.fn, .sl 1 (ints np.vs), .sl 3 (trees np.ks)]]] by unfold alsoT; rw [d_node, trees_cons, trees_cons]; rfl] at es
    refine Evx.call es ?_
    (conv => arg 1; ext i; whnf)
    refine Evx.bool (fun h4 => ?_) (fun h4 => ?_)
    · have h4 := hold_true.1 h4
      simp only [decide_eq_true_eq] at h4
      have h0 : introRA ts i = [ts.take i ++ [alsoT a np] ++ ts.drop (i + 2)] := by
        unfold introRA; rw [ha, hbb]; dsimp only; rw [if_pos h3, hnp]; dsimp only; rw [if_pos (by omega)]
      (conv => arg 1; ext i; whnf)
      refine Evx.mustP (by simp only [Option.getD, trees_len]; omega) ?_
      (conv => arg 1; ext i; whnf)
      refine Evx.appd (m := (min i ts.length) * 65) (by simp [Option.getD, trees_len]; rfl) (by have := Nat.min_le_right i ts.length; omega) ?_
      (conv => arg 1; ext i; whnf)
      refine Evx.appd (m := (min i ts.length + 1) * 65) (by simp [Option.getD, trees_len]; rfl) (by have := Nat.min_le_right i ts.length; omega) ?_
      (conv => arg 1; ext i; whnf)
      refine Evx.int (n' := ((i + 2 : Nat) : Int)) (by rw [wrap_small] <;> dsimp only <;> omega) ?_
      (conv => arg 1; ext i; whnf)
      refine Evx.mustP (by simp only [Option.getD, trees_len]; omega) ?_
      (conv => arg 1; ext i; whnf)
      refine Evx.appd (m := (min i ts.length + 1 + (ts.length - (i + 2))) * 65) (by simp [Option.getD, trees_len]; rw [show ((i : Int) + 2).toNat = i + 2 by omega]; rfl) (by have := Nat.min_le_right i ts.length; omega) ?_
      (conv => arg 1; ext i; whnf)
      refine Evx.appd (m := ((lists (introR ts i)).length + 1) * 25) rfl (by rw [lists_len]; omega) ?_
      (conv => arg 1; ext i; whnf)
      refine Evx.int (wrap_succ (n := i) (by omega)) ?_
      (conv => arg 1; ext i; whnf)
      have hA : trees [alsoT a np] = [[.str sAlso, .sl 1 [], .sl 3 [[.str a.fn, .sl 1 (ints a.vs), .sl 3 (trees a.ks)], [.str np.fn, .sl 1 (ints np.vs), .sl 3 (trees np.ks)]]]] := by
        rw [trees_cons]; simp only [alsoT, Tree.fn, Tree.vs, Tree.ks, trees_cons]; rfl
      refine (ih ⟨i + 1, by omega⟩ _ (by dsimp only; omega) ?_).to ?_
      · intro j
        rw [show introR ts (i + 1) = introR ts i ++ [ts.take i ++ [alsoT a np] ++ ts.drop (i + 2)] by simp only [introR, h0], lists_app, show lists [ts.take i ++ [alsoT a np] ++ ts.drop (i + 2)] = [[.sl 3 (trees (ts.take i ++ [alsoT a np] ++ ts.drop (i + 2)))]] from rfl, trees_app, trees_app, trees_take, trees_drop, hA,
          show (trees ts).drop (i + 2) = ((trees ts).take (Int.toNat ((trees ts).length : Int))).drop (i + 2) by rw [take_all]]
        kernel_rfl
      · dsimp only
        rw [if_pos (by omega)]
    have h4 := hold_false.1 h4
    simp only [decide_eq_false_iff_not] at h4
    have h0 : introRA ts i = [] := by
      unfold introRA; rw [ha, hbb]; dsimp only; rw [if_pos h3, hnp]; dsimp only; rw [if_neg (by omega)]
    (conv => arg 1; ext i; whnf)
    refine Evx.int (wrap_succ (n := i) (by omega)) ?_
    (conv => arg 1; ext i; whnf)
    exact next h0 _ (fun _ => by kernel_rfl)
  · have h2 := hold_false.1 h2
    simp only [trees_len, decide_eq_false_iff_not] at h2
    (conv => arg 1; ext i; whnf)
    refine Evx.pure ?_
    have : (if i ≤ ts.length - 1 then ts.length - 1 else i) = i := by split <;> omega
    dsimp only
    rw [this]
    rfl
end Go.Proofs.Ytfkfcjdoebjlfaa
