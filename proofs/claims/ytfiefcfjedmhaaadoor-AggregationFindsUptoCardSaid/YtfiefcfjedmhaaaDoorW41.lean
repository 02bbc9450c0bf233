/- Layer 41 walked: copies, frames, wrappers, merges. -/
import Derived.Test.YtfiefcfjedmhaaaDoorW31
import Derived.Test.YtfiefcfjedmhaaaDoorS41
namespace Go.Proofs.YtfiefcfjedmhaaaDoor
open Go Go.Abs Go.Abs.Asks
set_option linter.unusedVariables false
set_option linter.unusedSimpArgs false
set_option linter.unusedSectionVars false
variable [Asks]

theorem clip_ev (vs : List Int) : Ev pr 45 [.sl 1 (ints vs)] (.ret [.d (.full 1 (ints vs))]) := by
  apply Ev.enter; intro c; (conv => arg 1; ext i; whnf)
  refine Evx.mustP (by simp [Option.getD, ints_len]) ?_
  (conv => arg 1; ext i; whnf)
  refine Evx.pure ?_
  simp only [Option.getD]
  rw [take_all]
  rfl

def zeroBox : Box := ⟨[.d (.str (ByteArray.mk #[])), .d .nils, .d .nils], false⟩

theorem copied_ev (t : Tree) : t.ok → Ev pr 37 [t.d] (.ret [.d t.d]) := by
  induction t using Tree.rec' with
  | _ t ih =>
    intro ht
    have hk := ht.ks
    have hv := ht.vs
    apply Ev.enter; intro c; (conv => arg 1; ext i; whnf)
    refine Evx.callK (kClone_sl (by rw [ints_len]; omega)) ?_
    (conv => arg 1; ext i; whnf)
    refine Evx.call (clip_ev t.vs) ?_
    (conv => arg 1; ext i; whnf)
    refine (Evx.loop hint37 3 (α := Nat) (fun a => [some (.ptr 1 2 0), some (.ptr 1 3 0), some (.d (.sl 3 (trees t.ks))), some (.d (.int .i64 (trees t.ks).length)), some (.d (.int .i64 a))]) (fun a => [some zeroBox, some ⟨[.d (.str t.fn), .d (.full 1 (ints t.vs)), .own (.box 1 3 2) 3 (trees (t.ks.take a))], false⟩]) 1 [] (fun a => t.ks.length - a) (fun a => .ret [.d t.d]) ?_ 0 (fun _ => rfl) (fun _ => rfl) (fun _ => rfl) (fun _ => by kernel_rfl)).to rfl
    intro a bx L ih'; (conv => arg 1; ext i; whnf)
    refine Evx.bool (fun h2 => ?_) (fun h2 => ?_)
    · have h2 := hold_true.1 h2
      simp only [trees_len, decide_eq_true_eq] at h2
      obtain ⟨x, hx⟩ := get_some (l := t.ks) (i := a) (by omega)
      (conv => arg 1; ext i; whnf)
      refine Evx.idx (m := a) rfl (trees_get hx) ?_
      (conv => arg 1; ext i; whnf)
      refine Evx.call (ih a x hx (ht.kid hx)) ?_
      (conv => arg 1; ext i; whnf)
      refine Evx.appd rfl (m := ((trees (t.ks.take a)).length + 1) * 65) (by rw [trees_len]; simp; omega) ?_
      (conv => arg 1; ext i; whnf)
      refine Evx.int (wrap_succ (n := a) (by omega)) ?_
      (conv => arg 1; ext i; whnf)
      refine ih' (a + 1) _ (by omega) ?_
      intro j
      rw [trees_snoc hx]
      kernel_rfl
    · have h2 := hold_false.1 h2
      simp only [trees_len, decide_eq_false_iff_not] at h2
      (conv => arg 1; ext i; whnf)
      refine Evx.pure ?_
      rw [List.take_of_length_le (by omega)]
      rfl

/-- A node over copies. -/
theorem node_ev (f : ByteArray) (ts : List Tree) (hl : ts.length < 2 ^ 30) (ho : ∀ (i : Nat) t, ts[i]? = some t → t.ok) : Ev pr 30 [.str f, .sl 3 (trees ts)] (.ret [.d (Tree.node f [] ts).d]) := by
  apply Ev.enter; intro c; (conv => arg 1; ext i; whnf)
  refine (Evx.loop hint30 3 (α := Nat) (fun a => [some (.ptr 1 4 0), some (.ptr 1 5 0), some (.d (.sl 3 (trees ts))), some (.d (.int .i64 (trees ts).length)), some (.d (.int .i64 a))]) (fun a => [some zeroBox, some ⟨[.d (.str f), .d .nils, .own (.box 1 5 2) 3 (trees (ts.take a))], false⟩]) 1 [] (fun a => ts.length - a) (fun a => .ret [.d (Tree.node f [] ts).d]) ?_ 0 (fun _ => rfl) (fun _ => rfl) (fun _ => rfl) (fun _ => by kernel_rfl)).to rfl
  intro a bx L ih'; (conv => arg 1; ext i; whnf)
  refine Evx.bool (fun h2 => ?_) (fun h2 => ?_)
  · have h2 := hold_true.1 h2
    simp only [trees_len, decide_eq_true_eq] at h2
    obtain ⟨x, hx⟩ := get_some (l := ts) (i := a) (by omega)
    (conv => arg 1; ext i; whnf)
    refine Evx.idx (m := a) rfl (trees_get hx) ?_
    (conv => arg 1; ext i; whnf)
    refine Evx.call (copied_ev x (ho a x hx)) ?_
    (conv => arg 1; ext i; whnf)
    refine Evx.appd rfl (m := ((trees (ts.take a)).length + 1) * 65) (by rw [trees_len]; simp; omega) ?_
    (conv => arg 1; ext i; whnf)
    refine Evx.int (wrap_succ (n := a) (by omega)) ?_
    (conv => arg 1; ext i; whnf)
    refine ih' (a + 1) _ (by omega) ?_
    intro j
    rw [trees_snoc hx]
    kernel_rfl
  · have h2 := hold_false.1 h2
    simp only [trees_len, decide_eq_false_iff_not] at h2
    (conv => arg 1; ext i; whnf)
    refine Evx.pure ?_
    rw [List.take_of_length_le (by omega)]
    rfl

def zeroT : Tree := .node (ByteArray.mk #[]) [] []
def frameOut (o : Option (Tree × Tree)) : Out := match o with
  | some (a, b) => .ret [.d a.d, .d b.d, .d (.bool true)]
  | none => .ret [.d zeroT.d, .d zeroT.d, .d (.bool false)]
theorem frameOut_same (o : Option (Tree × Tree)) : Same.same (frameOut o) (frameOut o) = true := by
  cases o with
  | none => exact Out.same_self (by simp [AV.firm, Tree.firm, D.firm])
  | some p => exact Out.same_self (by simp [AV.firm, Tree.firm, D.firm])

theorem frame_ev (t : Tree) : Ev pr 28 [t.d] (frameOut (frameT t)) := by
  apply Ev.enter; intro c; (conv => arg 1; ext i; whnf)
  refine Evx.bool (fun h => ?_) (fun g1 => ?_)
  · (conv => arg 1; ext i; whnf)
    have hf : frame4 t.fn = true := by have := seq_iff.1 h; rw [this]; decide
    refine Evx.bool (fun h2 => ?_) (fun h2 => ?_)
    · have h2 := hold_true.1 h2
      simp only [trees_len, beq_iff_eq] at h2
      obtain ⟨x, y, hxy⟩ := two_of (ks := t.ks) (by omega)
      have k0 : t.ks[0]? = some x := by rw [hxy]; rfl
      have k1 : t.ks[1]? = some y := by rw [hxy]; rfl
      rw [frameT_of hf hxy]
      (conv => arg 1; ext i; whnf)
      refine Evx.two (frameOut_same _) ?_ ?_
      · (conv => arg 1; ext i; whnf)
        refine Evx.idx (m := 0) rfl (trees_get k0) ?_
        (conv => arg 1; ext i; whnf)
        refine Evx.idx (m := 1) rfl (trees_get k1) ?_
        (conv => arg 1; ext i; whnf)
        exact Evx.pure rfl
      · (conv => arg 1; ext i; whnf)
        refine Evx.two (frameOut_same _) ?_ ?_
        · (conv => arg 1; ext i; whnf)
          refine Evx.idx (m := 0) rfl (trees_get k0) ?_
          (conv => arg 1; ext i; whnf)
          refine Evx.idx (m := 1) rfl (trees_get k1) ?_
          (conv => arg 1; ext i; whnf)
          exact Evx.pure rfl
        · (conv => arg 1; ext i; whnf)
          refine Evx.idx (m := 0) rfl (trees_get k0) ?_
          (conv => arg 1; ext i; whnf)
          refine Evx.idx (m := 1) rfl (trees_get k1) ?_
          (conv => arg 1; ext i; whnf)
          exact Evx.pure rfl
    · have h2 := hold_false.1 h2
      simp only [trees_len, beq_eq_false_iff_ne, ne_eq] at h2
      rw [frameT_none (.inr (by omega))]
      (conv => arg 1; ext i; whnf)
      exact Evx.pure rfl
  (conv => arg 1; ext i; whnf)
  refine Evx.bool (fun h => ?_) (fun g2 => ?_)
  · (conv => arg 1; ext i; whnf)
    have hf : frame4 t.fn = true := by have := seq_iff.1 h; rw [this]; decide
    refine Evx.bool (fun h2 => ?_) (fun h2 => ?_)
    · have h2 := hold_true.1 h2
      simp only [trees_len, beq_iff_eq] at h2
      obtain ⟨x, y, hxy⟩ := two_of (ks := t.ks) (by omega)
      have k0 : t.ks[0]? = some x := by rw [hxy]; rfl
      have k1 : t.ks[1]? = some y := by rw [hxy]; rfl
      rw [frameT_of hf hxy]
      (conv => arg 1; ext i; whnf)
      refine Evx.two (frameOut_same _) ?_ ?_
      · (conv => arg 1; ext i; whnf)
        refine Evx.idx (m := 0) rfl (trees_get k0) ?_
        (conv => arg 1; ext i; whnf)
        refine Evx.idx (m := 1) rfl (trees_get k1) ?_
        (conv => arg 1; ext i; whnf)
        exact Evx.pure rfl
      · (conv => arg 1; ext i; whnf)
        refine Evx.two (frameOut_same _) ?_ ?_
        · (conv => arg 1; ext i; whnf)
          refine Evx.idx (m := 0) rfl (trees_get k0) ?_
          (conv => arg 1; ext i; whnf)
          refine Evx.idx (m := 1) rfl (trees_get k1) ?_
          (conv => arg 1; ext i; whnf)
          exact Evx.pure rfl
        · (conv => arg 1; ext i; whnf)
          refine Evx.idx (m := 0) rfl (trees_get k0) ?_
          (conv => arg 1; ext i; whnf)
          refine Evx.idx (m := 1) rfl (trees_get k1) ?_
          (conv => arg 1; ext i; whnf)
          exact Evx.pure rfl
    · have h2 := hold_false.1 h2
      simp only [trees_len, beq_eq_false_iff_ne, ne_eq] at h2
      rw [frameT_none (.inr (by omega))]
      (conv => arg 1; ext i; whnf)
      exact Evx.pure rfl
  (conv => arg 1; ext i; whnf)
  refine Evx.bool (fun h => ?_) (fun g3 => ?_)
  · (conv => arg 1; ext i; whnf)
    have hf : frame4 t.fn = true := by have := seq_iff.1 h; rw [this]; decide
    refine Evx.bool (fun h2 => ?_) (fun h2 => ?_)
    · have h2 := hold_true.1 h2
      simp only [trees_len, beq_iff_eq] at h2
      obtain ⟨x, y, hxy⟩ := two_of (ks := t.ks) (by omega)
      have k0 : t.ks[0]? = some x := by rw [hxy]; rfl
      have k1 : t.ks[1]? = some y := by rw [hxy]; rfl
      rw [frameT_of hf hxy]
      (conv => arg 1; ext i; whnf)
      refine Evx.two (frameOut_same _) ?_ ?_
      · (conv => arg 1; ext i; whnf)
        refine Evx.idx (m := 0) rfl (trees_get k0) ?_
        (conv => arg 1; ext i; whnf)
        refine Evx.idx (m := 1) rfl (trees_get k1) ?_
        (conv => arg 1; ext i; whnf)
        exact Evx.pure rfl
      · (conv => arg 1; ext i; whnf)
        refine Evx.two (frameOut_same _) ?_ ?_
        · (conv => arg 1; ext i; whnf)
          refine Evx.idx (m := 0) rfl (trees_get k0) ?_
          (conv => arg 1; ext i; whnf)
          refine Evx.idx (m := 1) rfl (trees_get k1) ?_
          (conv => arg 1; ext i; whnf)
          exact Evx.pure rfl
        · (conv => arg 1; ext i; whnf)
          refine Evx.idx (m := 0) rfl (trees_get k0) ?_
          (conv => arg 1; ext i; whnf)
          refine Evx.idx (m := 1) rfl (trees_get k1) ?_
          (conv => arg 1; ext i; whnf)
          exact Evx.pure rfl
    · have h2 := hold_false.1 h2
      simp only [trees_len, beq_eq_false_iff_ne, ne_eq] at h2
      rw [frameT_none (.inr (by omega))]
      (conv => arg 1; ext i; whnf)
      exact Evx.pure rfl
  (conv => arg 1; ext i; whnf)
  refine Evx.bool (fun h => ?_) (fun g4 => ?_)
  · (conv => arg 1; ext i; whnf)
    have hf : frame4 t.fn = true := by have := seq_iff.1 h; rw [this]; decide
    refine Evx.bool (fun h2 => ?_) (fun h2 => ?_)
    · have h2 := hold_true.1 h2
      simp only [trees_len, beq_iff_eq] at h2
      obtain ⟨x, y, hxy⟩ := two_of (ks := t.ks) (by omega)
      have k0 : t.ks[0]? = some x := by rw [hxy]; rfl
      have k1 : t.ks[1]? = some y := by rw [hxy]; rfl
      rw [frameT_of hf hxy]
      (conv => arg 1; ext i; whnf)
      refine Evx.two (frameOut_same _) ?_ ?_
      · (conv => arg 1; ext i; whnf)
        refine Evx.idx (m := 0) rfl (trees_get k0) ?_
        (conv => arg 1; ext i; whnf)
        refine Evx.idx (m := 1) rfl (trees_get k1) ?_
        (conv => arg 1; ext i; whnf)
        exact Evx.pure rfl
      · (conv => arg 1; ext i; whnf)
        refine Evx.two (frameOut_same _) ?_ ?_
        · (conv => arg 1; ext i; whnf)
          refine Evx.idx (m := 0) rfl (trees_get k0) ?_
          (conv => arg 1; ext i; whnf)
          refine Evx.idx (m := 1) rfl (trees_get k1) ?_
          (conv => arg 1; ext i; whnf)
          exact Evx.pure rfl
        · (conv => arg 1; ext i; whnf)
          refine Evx.idx (m := 0) rfl (trees_get k0) ?_
          (conv => arg 1; ext i; whnf)
          refine Evx.idx (m := 1) rfl (trees_get k1) ?_
          (conv => arg 1; ext i; whnf)
          exact Evx.pure rfl
    · have h2 := hold_false.1 h2
      simp only [trees_len, beq_eq_false_iff_ne, ne_eq] at h2
      rw [frameT_none (.inr (by omega))]
      (conv => arg 1; ext i; whnf)
      exact Evx.pure rfl
  (conv => arg 1; ext i; whnf)
  refine Evx.pure ?_
  rw [frameT_none (.inl (by
    simp only [frame4, Bool.or_eq_false_iff, decide_eq_false_iff_not]
    exact ⟨⟨⟨seq_ne.1 g1, seq_ne.1 g2⟩, seq_ne.1 g3⟩, seq_ne.1 g4⟩))]
  rfl

def frameOut' (f : ByteArray) (o : Option (Tree × Tree)) : Out := match o with
  | some (a, b) => .ret [.d (.str f), .d a.d, .d b.d, .d (.bool true)]
  | none => .ret [.d (.str (ByteArray.mk #[])), .d zeroT.d, .d zeroT.d, .d (.bool false)]
theorem frameOut'_same (f : ByteArray) (o : Option (Tree × Tree)) : Same.same (frameOut' f o) (frameOut' f o) = true := by
  cases o with
  | none => exact Out.same_self (by simp [AV.firm, Tree.firm, D.firm])
  | some p => exact Out.same_self (by simp [AV.firm, Tree.firm, D.firm])
theorem rFrame_ev (t : Tree) : Ev pr 20 [t.d] (frameOut' t.fn (frameT t)) := by
  apply Ev.enter; intro c; (conv => arg 1; ext i; whnf)
  refine Evx.bool (fun h => ?_) (fun g1 => ?_)
  · (conv => arg 1; ext i; whnf)
    have hf : frame4 t.fn = true := by have := seq_iff.1 h; rw [this]; decide
    refine Evx.bool (fun h2 => ?_) (fun h2 => ?_)
    · have h2 := hold_true.1 h2
      simp only [trees_len, beq_iff_eq] at h2
      obtain ⟨x, y, hxy⟩ := two_of (ks := t.ks) (by omega)
      have k0 : t.ks[0]? = some x := by rw [hxy]; rfl
      have k1 : t.ks[1]? = some y := by rw [hxy]; rfl
      rw [frameT_of hf hxy]
      (conv => arg 1; ext i; whnf)
      refine Evx.two ((frameOut'_same t.fn) _) ?_ ?_
      · (conv => arg 1; ext i; whnf)
        refine Evx.idx (m := 0) rfl (trees_get k0) ?_
        (conv => arg 1; ext i; whnf)
        refine Evx.idx (m := 1) rfl (trees_get k1) ?_
        (conv => arg 1; ext i; whnf)
        exact Evx.pure rfl
      · (conv => arg 1; ext i; whnf)
        refine Evx.two ((frameOut'_same t.fn) _) ?_ ?_
        · (conv => arg 1; ext i; whnf)
          refine Evx.idx (m := 0) rfl (trees_get k0) ?_
          (conv => arg 1; ext i; whnf)
          refine Evx.idx (m := 1) rfl (trees_get k1) ?_
          (conv => arg 1; ext i; whnf)
          exact Evx.pure rfl
        · (conv => arg 1; ext i; whnf)
          refine Evx.idx (m := 0) rfl (trees_get k0) ?_
          (conv => arg 1; ext i; whnf)
          refine Evx.idx (m := 1) rfl (trees_get k1) ?_
          (conv => arg 1; ext i; whnf)
          exact Evx.pure rfl
    · have h2 := hold_false.1 h2
      simp only [trees_len, beq_eq_false_iff_ne, ne_eq] at h2
      rw [frameT_none (.inr (by omega))]
      (conv => arg 1; ext i; whnf)
      exact Evx.pure rfl
  (conv => arg 1; ext i; whnf)
  refine Evx.bool (fun h => ?_) (fun g2 => ?_)
  · (conv => arg 1; ext i; whnf)
    have hf : frame4 t.fn = true := by have := seq_iff.1 h; rw [this]; decide
    refine Evx.bool (fun h2 => ?_) (fun h2 => ?_)
    · have h2 := hold_true.1 h2
      simp only [trees_len, beq_iff_eq] at h2
      obtain ⟨x, y, hxy⟩ := two_of (ks := t.ks) (by omega)
      have k0 : t.ks[0]? = some x := by rw [hxy]; rfl
      have k1 : t.ks[1]? = some y := by rw [hxy]; rfl
      rw [frameT_of hf hxy]
      (conv => arg 1; ext i; whnf)
      refine Evx.two ((frameOut'_same t.fn) _) ?_ ?_
      · (conv => arg 1; ext i; whnf)
        refine Evx.idx (m := 0) rfl (trees_get k0) ?_
        (conv => arg 1; ext i; whnf)
        refine Evx.idx (m := 1) rfl (trees_get k1) ?_
        (conv => arg 1; ext i; whnf)
        exact Evx.pure rfl
      · (conv => arg 1; ext i; whnf)
        refine Evx.two ((frameOut'_same t.fn) _) ?_ ?_
        · (conv => arg 1; ext i; whnf)
          refine Evx.idx (m := 0) rfl (trees_get k0) ?_
          (conv => arg 1; ext i; whnf)
          refine Evx.idx (m := 1) rfl (trees_get k1) ?_
          (conv => arg 1; ext i; whnf)
          exact Evx.pure rfl
        · (conv => arg 1; ext i; whnf)
          refine Evx.idx (m := 0) rfl (trees_get k0) ?_
          (conv => arg 1; ext i; whnf)
          refine Evx.idx (m := 1) rfl (trees_get k1) ?_
          (conv => arg 1; ext i; whnf)
          exact Evx.pure rfl
    · have h2 := hold_false.1 h2
      simp only [trees_len, beq_eq_false_iff_ne, ne_eq] at h2
      rw [frameT_none (.inr (by omega))]
      (conv => arg 1; ext i; whnf)
      exact Evx.pure rfl
  (conv => arg 1; ext i; whnf)
  refine Evx.bool (fun h => ?_) (fun g3 => ?_)
  · (conv => arg 1; ext i; whnf)
    have hf : frame4 t.fn = true := by have := seq_iff.1 h; rw [this]; decide
    refine Evx.bool (fun h2 => ?_) (fun h2 => ?_)
    · have h2 := hold_true.1 h2
      simp only [trees_len, beq_iff_eq] at h2
      obtain ⟨x, y, hxy⟩ := two_of (ks := t.ks) (by omega)
      have k0 : t.ks[0]? = some x := by rw [hxy]; rfl
      have k1 : t.ks[1]? = some y := by rw [hxy]; rfl
      rw [frameT_of hf hxy]
      (conv => arg 1; ext i; whnf)
      refine Evx.two ((frameOut'_same t.fn) _) ?_ ?_
      · (conv => arg 1; ext i; whnf)
        refine Evx.idx (m := 0) rfl (trees_get k0) ?_
        (conv => arg 1; ext i; whnf)
        refine Evx.idx (m := 1) rfl (trees_get k1) ?_
        (conv => arg 1; ext i; whnf)
        exact Evx.pure rfl
      · (conv => arg 1; ext i; whnf)
        refine Evx.two ((frameOut'_same t.fn) _) ?_ ?_
        · (conv => arg 1; ext i; whnf)
          refine Evx.idx (m := 0) rfl (trees_get k0) ?_
          (conv => arg 1; ext i; whnf)
          refine Evx.idx (m := 1) rfl (trees_get k1) ?_
          (conv => arg 1; ext i; whnf)
          exact Evx.pure rfl
        · (conv => arg 1; ext i; whnf)
          refine Evx.idx (m := 0) rfl (trees_get k0) ?_
          (conv => arg 1; ext i; whnf)
          refine Evx.idx (m := 1) rfl (trees_get k1) ?_
          (conv => arg 1; ext i; whnf)
          exact Evx.pure rfl
    · have h2 := hold_false.1 h2
      simp only [trees_len, beq_eq_false_iff_ne, ne_eq] at h2
      rw [frameT_none (.inr (by omega))]
      (conv => arg 1; ext i; whnf)
      exact Evx.pure rfl
  (conv => arg 1; ext i; whnf)
  refine Evx.bool (fun h => ?_) (fun g4 => ?_)
  · (conv => arg 1; ext i; whnf)
    have hf : frame4 t.fn = true := by have := seq_iff.1 h; rw [this]; decide
    refine Evx.bool (fun h2 => ?_) (fun h2 => ?_)
    · have h2 := hold_true.1 h2
      simp only [trees_len, beq_iff_eq] at h2
      obtain ⟨x, y, hxy⟩ := two_of (ks := t.ks) (by omega)
      have k0 : t.ks[0]? = some x := by rw [hxy]; rfl
      have k1 : t.ks[1]? = some y := by rw [hxy]; rfl
      rw [frameT_of hf hxy]
      (conv => arg 1; ext i; whnf)
      refine Evx.two ((frameOut'_same t.fn) _) ?_ ?_
      · (conv => arg 1; ext i; whnf)
        refine Evx.idx (m := 0) rfl (trees_get k0) ?_
        (conv => arg 1; ext i; whnf)
        refine Evx.idx (m := 1) rfl (trees_get k1) ?_
        (conv => arg 1; ext i; whnf)
        exact Evx.pure rfl
      · (conv => arg 1; ext i; whnf)
        refine Evx.two ((frameOut'_same t.fn) _) ?_ ?_
        · (conv => arg 1; ext i; whnf)
          refine Evx.idx (m := 0) rfl (trees_get k0) ?_
          (conv => arg 1; ext i; whnf)
          refine Evx.idx (m := 1) rfl (trees_get k1) ?_
          (conv => arg 1; ext i; whnf)
          exact Evx.pure rfl
        · (conv => arg 1; ext i; whnf)
          refine Evx.idx (m := 0) rfl (trees_get k0) ?_
          (conv => arg 1; ext i; whnf)
          refine Evx.idx (m := 1) rfl (trees_get k1) ?_
          (conv => arg 1; ext i; whnf)
          exact Evx.pure rfl
    · have h2 := hold_false.1 h2
      simp only [trees_len, beq_eq_false_iff_ne, ne_eq] at h2
      rw [frameT_none (.inr (by omega))]
      (conv => arg 1; ext i; whnf)
      exact Evx.pure rfl
  (conv => arg 1; ext i; whnf)
  refine Evx.pure ?_
  rw [frameT_none (.inl (by
    simp only [frame4, Bool.or_eq_false_iff, decide_eq_false_iff_not]
    exact ⟨⟨⟨seq_ne.1 g1, seq_ne.1 g2⟩, seq_ne.1 g3⟩, seq_ne.1 g4⟩))]
  rfl
theorem FrameP_ev (t : Tree) (ht : t.ok) : Ev pr 19 [t.d] (frameOut' t.fn (frameT t)) := by
  have e := frame_ev t
  apply Ev.enter; intro c; (conv => arg 1; ext i; whnf)
  refine Evx.call e ?_
  cases hf : frameT t with
  | none => (conv => arg 1; ext i; whnf); exact Evx.pure rfl
  | some p =>
    obtain ⟨a, b⟩ := p
    obtain ⟨h1, h2⟩ := frameT_some hf
    have k0 : t.ks[0]? = some a := by rw [h2]; rfl
    have k1 : t.ks[1]? = some b := by rw [h2]; rfl
    simp only [frameOut]
    (conv => arg 1; ext i; whnf)
    refine Evx.call (copied_ev a (ht.kid k0)) ?_
    (conv => arg 1; ext i; whnf)
    refine Evx.call (copied_ev b (ht.kid k1)) ?_
    (conv => arg 1; ext i; whnf)
    exact Evx.pure rfl

def wrapF (t : Tree) : D := .fn (.func 44) [.at [.str t.fn, .sl 1 (ints t.vs), .sl 3 (trees t.ks)]]
def wrapOut (t : Tree) : Out := match wrapT t with
  | some _ => .ret [.d (wrapF t), .d (.bool true)]
  | none => .ret [.d .nilf, .d (.bool false)]
theorem wrapper_ev (t : Tree) : Ev pr 31 [t.d] (wrapOut t) := by
  unfold wrapOut
  apply Ev.enter; intro c; (conv => arg 1; ext i; whnf)
  refine Evx.bool (fun h => ?_) (fun g1 => ?_)
  · (conv => arg 1; ext i; whnf)
    have hf : wrap4 t.fn = true := by have := seq_iff.1 h; rw [this]; decide
    refine Evx.bool (fun h2 => ?_) (fun h2 => ?_)
    · have h2 := hold_true.1 h2
      simp only [trees_len, beq_iff_eq] at h2
      obtain ⟨x, hxy⟩ := one_of (ks := t.ks) (by omega)
      rw [wrapT_of hf hxy]
      (conv => arg 1; ext i; whnf)
      exact Evx.pure rfl
    · have h2 := hold_false.1 h2
      simp only [trees_len, beq_eq_false_iff_ne, ne_eq] at h2
      rw [wrapT_none (.inr (by omega))]
      (conv => arg 1; ext i; whnf)
      exact Evx.pure rfl
  (conv => arg 1; ext i; whnf)
  refine Evx.bool (fun h => ?_) (fun g2 => ?_)
  · (conv => arg 1; ext i; whnf)
    have hf : wrap4 t.fn = true := by have := seq_iff.1 h; rw [this]; decide
    refine Evx.bool (fun h2 => ?_) (fun h2 => ?_)
    · have h2 := hold_true.1 h2
      simp only [trees_len, beq_iff_eq] at h2
      obtain ⟨x, hxy⟩ := one_of (ks := t.ks) (by omega)
      rw [wrapT_of hf hxy]
      (conv => arg 1; ext i; whnf)
      exact Evx.pure rfl
    · have h2 := hold_false.1 h2
      simp only [trees_len, beq_eq_false_iff_ne, ne_eq] at h2
      rw [wrapT_none (.inr (by omega))]
      (conv => arg 1; ext i; whnf)
      exact Evx.pure rfl
  (conv => arg 1; ext i; whnf)
  refine Evx.bool (fun h => ?_) (fun g3 => ?_)
  · (conv => arg 1; ext i; whnf)
    have hf : wrap4 t.fn = true := by have := seq_iff.1 h; rw [this]; decide
    refine Evx.bool (fun h2 => ?_) (fun h2 => ?_)
    · have h2 := hold_true.1 h2
      simp only [trees_len, beq_iff_eq] at h2
      obtain ⟨x, hxy⟩ := one_of (ks := t.ks) (by omega)
      rw [wrapT_of hf hxy]
      (conv => arg 1; ext i; whnf)
      exact Evx.pure rfl
    · have h2 := hold_false.1 h2
      simp only [trees_len, beq_eq_false_iff_ne, ne_eq] at h2
      rw [wrapT_none (.inr (by omega))]
      (conv => arg 1; ext i; whnf)
      exact Evx.pure rfl
  (conv => arg 1; ext i; whnf)
  refine Evx.bool (fun h => ?_) (fun g4 => ?_)
  · (conv => arg 1; ext i; whnf)
    have hf : wrap4 t.fn = true := by have := seq_iff.1 h; rw [this]; decide
    refine Evx.bool (fun h2 => ?_) (fun h2 => ?_)
    · have h2 := hold_true.1 h2
      simp only [trees_len, beq_iff_eq] at h2
      obtain ⟨x, hxy⟩ := one_of (ks := t.ks) (by omega)
      rw [wrapT_of hf hxy]
      (conv => arg 1; ext i; whnf)
      exact Evx.pure rfl
    · have h2 := hold_false.1 h2
      simp only [trees_len, beq_eq_false_iff_ne, ne_eq] at h2
      rw [wrapT_none (.inr (by omega))]
      (conv => arg 1; ext i; whnf)
      exact Evx.pure rfl
  (conv => arg 1; ext i; whnf)
  refine Evx.pure ?_
  rw [wrapT_none (.inl (by
    simp only [wrap4, Bool.or_eq_false_iff, decide_eq_false_iff_not]
    exact ⟨⟨⟨seq_ne.1 g1, seq_ne.1 g2⟩, seq_ne.1 g3⟩, seq_ne.1 g4⟩))]

theorem wrapF_ev (t k : Tree) (ht : t.ok) : Ev pr 44 [k.d, .at [.str t.fn, .sl 1 (ints t.vs), .sl 3 (trees t.ks)]] (.ret [.d (Tree.node t.fn t.vs [k]).d]) := by
  have hv := ht.vs
  have hs : Same.same (Out.ret [.d (Tree.node t.fn t.vs [k]).d]) (Out.ret [.d (Tree.node t.fn t.vs [k]).d]) = true := Out.same_self (by simp [AV.firm, Tree.firm])
  rw [d_node, trees_cons] at hs ⊢
  apply Ev.enter; intro c; (conv => arg 1; ext i; whnf)
  refine Evx.two hs ?_ ?_
  · (conv => arg 1; ext i; whnf)
    refine Evx.callK (kClone_sl (by rw [ints_len]; omega)) ?_
    (conv => arg 1; ext i; whnf)
    refine Evx.call (clip_ev t.vs) ?_
    (conv => arg 1; ext i; whnf)
    exact Evx.pure rfl
  · (conv => arg 1; ext i; whnf)
    refine Evx.two hs ?_ ?_
    · (conv => arg 1; ext i; whnf)
      refine Evx.callK (kClone_sl (by rw [ints_len]; omega)) ?_
      (conv => arg 1; ext i; whnf)
      refine Evx.call (clip_ev t.vs) ?_
      (conv => arg 1; ext i; whnf)
      exact Evx.pure rfl
    · (conv => arg 1; ext i; whnf)
      refine Evx.callK (kClone_sl (by rw [ints_len]; omega)) ?_
      (conv => arg 1; ext i; whnf)
      refine Evx.call (clip_ev t.vs) ?_
      (conv => arg 1; ext i; whnf)
      exact Evx.pure rfl

/-! The reference. -/
theorem rwrapper_ev (t : Tree) : Ev pr 34 [t.d] (.ret [.d (.bool (wrapT t).isSome)]) := by
  apply Ev.enter; intro c; (conv => arg 1; ext i; whnf)
  refine Evx.bool (fun h => ?_) (fun g1 => ?_)
  · (conv => arg 1; ext i; whnf)
    have hf : wrap4 t.fn = true := by have := seq_iff.1 h; rw [this]; decide
    refine Evx.pure ?_
    rw [hold_eq, trees_len]
    by_cases h2 : t.ks.length = 1
    · obtain ⟨x, hxy⟩ := one_of h2
      rw [wrapT_of hf hxy, h2]; rfl
    · rw [wrapT_none (.inr h2)]
      have : ((t.ks.length : Int) == 1) = false := by simp; omega
      rw [this]; rfl
  (conv => arg 1; ext i; whnf)
  refine Evx.bool (fun h => ?_) (fun g2 => ?_)
  · (conv => arg 1; ext i; whnf)
    have hf : wrap4 t.fn = true := by have := seq_iff.1 h; rw [this]; decide
    refine Evx.pure ?_
    rw [hold_eq, trees_len]
    by_cases h2 : t.ks.length = 1
    · obtain ⟨x, hxy⟩ := one_of h2
      rw [wrapT_of hf hxy, h2]; rfl
    · rw [wrapT_none (.inr h2)]
      have : ((t.ks.length : Int) == 1) = false := by simp; omega
      rw [this]; rfl
  (conv => arg 1; ext i; whnf)
  refine Evx.bool (fun h => ?_) (fun g3 => ?_)
  · (conv => arg 1; ext i; whnf)
    have hf : wrap4 t.fn = true := by have := seq_iff.1 h; rw [this]; decide
    refine Evx.pure ?_
    rw [hold_eq, trees_len]
    by_cases h2 : t.ks.length = 1
    · obtain ⟨x, hxy⟩ := one_of h2
      rw [wrapT_of hf hxy, h2]; rfl
    · rw [wrapT_none (.inr h2)]
      have : ((t.ks.length : Int) == 1) = false := by simp; omega
      rw [this]; rfl
  (conv => arg 1; ext i; whnf)
  refine Evx.bool (fun h => ?_) (fun g4 => ?_)
  · (conv => arg 1; ext i; whnf)
    have hf : wrap4 t.fn = true := by have := seq_iff.1 h; rw [this]; decide
    refine Evx.pure ?_
    rw [hold_eq, trees_len]
    by_cases h2 : t.ks.length = 1
    · obtain ⟨x, hxy⟩ := one_of h2
      rw [wrapT_of hf hxy, h2]; rfl
    · rw [wrapT_none (.inr h2)]
      have : ((t.ks.length : Int) == 1) = false := by simp; omega
      rw [this]; rfl
  (conv => arg 1; ext i; whnf)
  refine Evx.pure ?_
  rw [wrapT_none (.inl (by
    simp only [wrap4, Bool.or_eq_false_iff, decide_eq_false_iff_not]
    exact ⟨⟨⟨seq_ne.1 g1, seq_ne.1 g2⟩, seq_ne.1 g3⟩, seq_ne.1 g4⟩))]
  rfl

theorem rtree_ev (f : ByteArray) (ts : List Tree) (hl : ts.length < 2 ^ 30) : Ev pr 33 [.str f, .sl 3 (trees ts)] (.ret [.d (Tree.node f [] ts).d]) := by
  apply Ev.enter; intro c; (conv => arg 1; ext i; whnf)
  refine Evx.appd rfl (m := (0 + (trees ts).length) * 65) (by rw [trees_len]; omega) ?_
  (conv => arg 1; ext i; whnf)
  exact Evx.pure rfl

theorem rwrap_ev (t k : Tree) (ht : t.ok) : Ev pr 36 [t.d, k.d] (.ret [.d (Tree.node t.fn t.vs [k]).d]) := by
  have hv := ht.vs
  rw [d_node, trees_cons]
  apply Ev.enter; intro c; (conv => arg 1; ext i; whnf)
  refine Evx.appd rfl (m := (0 + (ints t.vs).length) * 9) (by rw [ints_len]; omega) ?_
  (conv => arg 1; ext i; whnf)
  exact Evx.pure rfl

theorem agree_ev (t u : Tree) (ht : t.ok) : Ev pr 35 [t.d, u.d] (.ret [.d (.bool (decide (t.fn = u.fn) && decide (t.vs = u.vs)))]) := by
  have e := rSame_ev (.node t.fn t.vs []) (.node u.fn u.vs []) (by
    have := ht
    unfold Tree.ok at this ⊢
    rw [t.bulk_eq] at this
    simp only [Tree.bulk, bulks]
    omega)
  have e2 : (Tree.node t.fn t.vs []).same (.node u.fn u.vs []) = (decide (t.fn = u.fn) && decide (t.vs = u.vs)) := by
    rw [same_proj]
    show (decide (t.fn = u.fn) && decide (t.vs = u.vs) && sames [] []) = _
    rw [show sames [] [] = true from rfl, Bool.and_true]
  rw [e2, d_node, d_node] at e
  apply Ev.enter; intro c; (conv => arg 1; ext i; whnf)
  refine Evx.call e ?_
  (conv => arg 1; ext i; whnf)
  exact Evx.pure rfl

/-! Merges. -/
def wrapM (t u : Tree) : Bool := decide (t.fn = u.fn) && (wrapT t).isSome && (wrapT u).isSome && decide (t.vs = u.vs)
def mergeV (t u : Tree) : AV := if wrapM t u = true ∨ mergeT t u ≠ [] then .own (.res 0) 3 (trees (mergeT t u)) else .d .nils

theorem mergeV_cases (t u : Tree) : mergeV t u = .own (.res 0) 3 (trees (mergeT t u)) ∨ (mergeV t u = .d .nils ∧ mergeT t u = []) := by
  unfold mergeV
  split
  · exact .inl rfl
  · rename_i hno
    refine .inr ⟨rfl, ?_⟩
    cases hq : mergeT t u with
    | nil => rfl
    | cons a b => exact absurd (.inr (by rw [hq]; simp)) hno

theorem merge_ev (t : Tree) : ∀ u, t.bulk < 2 ^ 28 → u.bulk < 2 ^ 28 → Ev pr 14 [t.d, u.d] (.ret [mergeV t u]) := by
  induction t using Tree.rec' with
  | _ t ih =>
    intro u ht hu
    have hto : t.ok := by unfold Tree.ok; omega
    have huo : u.ok := by unfold Tree.ok; omega
    apply Ev.enter; intro c; (conv => arg 1; ext i; whnf)
    refine Evx.bool (fun h => ?_) (fun h => ?_)
    · have h : t.fn ≠ u.fn := by simpa using seq_ne.1 (by simpa using h)
      (conv => arg 1; ext i; whnf)
      refine Evx.pure ?_
      rw [mergeV, merge_ne h]
      simp [wrapM, h]
    have hfn : t.fn = u.fn := by simpa using seq_iff.1 (by simpa using h)
    (conv => arg 1; ext i; whnf)
    refine Evx.call (frame_ev t) ?_
    cases hft : frameT t with
    | none =>
      simp only [frameOut]
      (conv => arg 1; ext i; whnf)
      refine Evx.call (frame_ev u) ?_
      cases hfu : frameT u with
      | none =>
        simp only [frameOut]
        (conv => arg 1; ext i; whnf)
        refine Evx.call (wrapper_ev t) ?_
        cases hwt : wrapT t with
        | none =>
          simp only [wrapOut, hwt]
          (conv => arg 1; ext i; whnf)
          refine Evx.call (wrapper_ev u) ?_
          have hmv : mergeV t u = .d .nils := by
            rw [mergeV, merge_none (.inl hft) (.inl hwt)]
            simp [wrapM, hwt]
          rw [hmv]
          cases hwu : wrapT u with
          | none => simp only [wrapOut, hwu]; (conv => arg 1; ext i; whnf); exact Evx.pure rfl
          | some l => simp only [wrapOut, hwu]; (conv => arg 1; ext i; whnf); exact Evx.pure rfl
        | some k =>
          simp only [wrapOut, hwt]
          (conv => arg 1; ext i; whnf)
          refine Evx.call (wrapper_ev u) ?_
          cases hwu : wrapT u with
          | none =>
            have hmv : mergeV t u = .d .nils := by
              rw [mergeV, merge_none (.inl hft) (.inr hwu)]
              simp [wrapM, hwu]
            rw [hmv]
            simp only [wrapOut, hwu]; (conv => arg 1; ext i; whnf); exact Evx.pure rfl
          | some l =>
            simp only [wrapOut, hwu]
            (conv => arg 1; ext i; whnf)
            refine Evx.call (equal_ints t.vs u.vs (by have := hto.vs; omega)) ?_
            (conv => arg 1; ext i; whnf)
            refine Evx.bool (fun h5 => ?_) (fun h5 => ?_)
            · have hne : t.vs ≠ u.vs := by simpa using h5
              have hmv : mergeV t u = .d .nils := by
                rw [mergeV, merge_wrap hfn hwt hwu, if_neg hne]
                simp [wrapM, hne]
              rw [hmv]
              (conv => arg 1; ext i; whnf)
              exact Evx.pure rfl
            have hve : t.vs = u.vs := by simpa using h5
            have hmm := merge_wrap hfn hwt hwu
            rw [if_pos hve] at hmm
            have hmv : mergeV t u = .own (.res 0) 3 (trees ((mergeT k l).map fun m => .node t.fn t.vs [m])) := by
              rw [mergeV, hmm]
              exact if_pos (.inl (by simp [wrapM, hfn, hwt, hwu, hve]))
            rw [hmv]
            obtain ⟨_, hk1⟩ := wrapT_some hwt
            obtain ⟨_, hk2⟩ := wrapT_some hwu
            have k0 : t.ks[0]? = some k := by rw [hk1]; rfl
            have l0 : u.ks[0]? = some l := by rw [hk2]; rfl
            have hkb := Tree.kid_lt k0
            have hlb := Tree.kid_lt l0
            have ek := ih 0 k k0 l (by omega) (by omega)
            have hml := merge_len k l
            have hmb := merge_bulk k l
            (conv => arg 1; ext i; whnf)
            refine Evx.idx (m := 0) rfl (trees_get k0) ?_
            (conv => arg 1; ext i; whnf)
            refine Evx.idx (m := 0) rfl (trees_get l0) ?_
            (conv => arg 1; ext i; whnf)
            rcases mergeV_cases k l with hv | ⟨hv, hms⟩
            · rw [hv] at ek
              generalize mergeT k l = ms at *
              refine Evx.call ek ?_
              (conv => arg 1; ext i; whnf)
              refine (Evx.loop hint14 17 (α := Nat) (fun a => [some (.own (.tmp 1 5 0) 3 (trees ((ms.take a).map fun m => .node t.fn t.vs [m]))), some (.d (wrapF t)), some (.d (.sl 3 (trees ms))), some (.d (.int .i64 (trees ms).length)), some (.d (.int .i64 a))]) (fun a => []) 1 [] (fun a => ms.length - a) (fun a => _) ?_ 0 (fun _ => rfl) (fun _ => rfl) (fun _ => rfl) (fun _ => by kernel_rfl))
              intro a bx L ihl; (conv => arg 1; ext i; whnf)
              refine Evx.bool (fun h2 => ?_) (fun h2 => ?_)
              · have h2 := hold_true.1 h2
                simp only [trees_len, decide_eq_true_eq] at h2
                obtain ⟨m, hm⟩ := get_some (l := ms) (i := a) (by omega)
                (conv => arg 1; ext i; whnf)
                refine Evx.idx (m := a) rfl (trees_get hm) ?_
                (conv => arg 1; ext i; whnf)
                refine Evx.call (wrapF_ev t m hto) ?_
                (conv => arg 1; ext i; whnf)
                refine Evx.appd rfl (m := ((trees ((ms.take a).map fun m => .node t.fn t.vs [m])).length + 1) * 65) (by rw [trees_len, List.length_map, List.length_take]; omega) ?_
                (conv => arg 1; ext i; whnf)
                refine Evx.int (wrap_succ (n := a) (by omega)) ?_
                (conv => arg 1; ext i; whnf)
                refine ihl (a + 1) _ (by omega) ?_
                intro j
                rw [take_succ' hm, List.map_append, trees_app, List.map_cons, List.map_nil, trees_cons]
                kernel_rfl
              · have h2 := hold_false.1 h2
                simp only [trees_len, decide_eq_false_iff_not] at h2
                (conv => arg 1; ext i; whnf)
                refine Evx.pure ?_
                rw [List.take_of_length_le (by omega)]
                rfl
            · rw [hv] at ek
              rw [hms]
              refine Evx.call ek ?_
              (conv => arg 1; ext i; whnf)
              refine (Evx.loop hint14 17 (α := Unit) (fun a => [some (.own (.tmp 1 5 0) 3 []), some (.d (wrapF t)), some (.d .nils), some (.d (.int .i64 0)), some (.d (.int .i64 0))]) (fun a => []) 1 [] (fun a => 0) (fun a => _) ?_ () (fun _ => rfl) (fun _ => rfl) (fun _ => rfl) (fun _ => by kernel_rfl))
              rintro ⟨⟩ bx L ihl; (conv => arg 1; ext i; whnf)
              refine Evx.bool (fun h2 => ?_) (fun h2 => ?_)
              · exact absurd (hold_true.1 h2) (by decide)
              (conv => arg 1; ext i; whnf)
              exact Evx.pure rfl
      | some q =>
        obtain ⟨x, y⟩ := q
        simp only [frameOut]
        (conv => arg 1; ext i; whnf)
        refine Evx.call (wrapper_ev t) ?_
        cases hwt : wrapT t with
        | none =>
          simp only [wrapOut, hwt]
          (conv => arg 1; ext i; whnf)
          refine Evx.call (wrapper_ev u) ?_
          have hmv : mergeV t u = .d .nils := by
            rw [mergeV, merge_none (.inl hft) (.inl hwt)]
            simp [wrapM, hwt]
          rw [hmv]
          cases hwu : wrapT u with
          | none => simp only [wrapOut, hwu]; (conv => arg 1; ext i; whnf); exact Evx.pure rfl
          | some l => simp only [wrapOut, hwu]; (conv => arg 1; ext i; whnf); exact Evx.pure rfl
        | some k =>
          simp only [wrapOut, hwt]
          (conv => arg 1; ext i; whnf)
          refine Evx.call (wrapper_ev u) ?_
          cases hwu : wrapT u with
          | none =>
            have hmv : mergeV t u = .d .nils := by
              rw [mergeV, merge_none (.inl hft) (.inr hwu)]
              simp [wrapM, hwu]
            rw [hmv]
            simp only [wrapOut, hwu]; (conv => arg 1; ext i; whnf); exact Evx.pure rfl
          | some l =>
            simp only [wrapOut, hwu]
            (conv => arg 1; ext i; whnf)
            refine Evx.call (equal_ints t.vs u.vs (by have := hto.vs; omega)) ?_
            (conv => arg 1; ext i; whnf)
            refine Evx.bool (fun h5 => ?_) (fun h5 => ?_)
            · have hne : t.vs ≠ u.vs := by simpa using h5
              have hmv : mergeV t u = .d .nils := by
                rw [mergeV, merge_wrap hfn hwt hwu, if_neg hne]
                simp [wrapM, hne]
              rw [hmv]
              (conv => arg 1; ext i; whnf)
              exact Evx.pure rfl
            have hve : t.vs = u.vs := by simpa using h5
            have hmm := merge_wrap hfn hwt hwu
            rw [if_pos hve] at hmm
            have hmv : mergeV t u = .own (.res 0) 3 (trees ((mergeT k l).map fun m => .node t.fn t.vs [m])) := by
              rw [mergeV, hmm]
              exact if_pos (.inl (by simp [wrapM, hfn, hwt, hwu, hve]))
            rw [hmv]
            obtain ⟨_, hk1⟩ := wrapT_some hwt
            obtain ⟨_, hk2⟩ := wrapT_some hwu
            have k0 : t.ks[0]? = some k := by rw [hk1]; rfl
            have l0 : u.ks[0]? = some l := by rw [hk2]; rfl
            have hkb := Tree.kid_lt k0
            have hlb := Tree.kid_lt l0
            have ek := ih 0 k k0 l (by omega) (by omega)
            have hml := merge_len k l
            have hmb := merge_bulk k l
            (conv => arg 1; ext i; whnf)
            refine Evx.idx (m := 0) rfl (trees_get k0) ?_
            (conv => arg 1; ext i; whnf)
            refine Evx.idx (m := 0) rfl (trees_get l0) ?_
            (conv => arg 1; ext i; whnf)
            rcases mergeV_cases k l with hv | ⟨hv, hms⟩
            · rw [hv] at ek
              generalize mergeT k l = ms at *
              refine Evx.call ek ?_
              (conv => arg 1; ext i; whnf)
              refine (Evx.loop hint14 17 (α := Nat) (fun a => [some (.own (.tmp 1 5 0) 3 (trees ((ms.take a).map fun m => .node t.fn t.vs [m]))), some (.d (wrapF t)), some (.d (.sl 3 (trees ms))), some (.d (.int .i64 (trees ms).length)), some (.d (.int .i64 a))]) (fun a => []) 1 [] (fun a => ms.length - a) (fun a => _) ?_ 0 (fun _ => rfl) (fun _ => rfl) (fun _ => rfl) (fun _ => by kernel_rfl))
              intro a bx L ihl; (conv => arg 1; ext i; whnf)
              refine Evx.bool (fun h2 => ?_) (fun h2 => ?_)
              · have h2 := hold_true.1 h2
                simp only [trees_len, decide_eq_true_eq] at h2
                obtain ⟨m, hm⟩ := get_some (l := ms) (i := a) (by omega)
                (conv => arg 1; ext i; whnf)
                refine Evx.idx (m := a) rfl (trees_get hm) ?_
                (conv => arg 1; ext i; whnf)
                refine Evx.call (wrapF_ev t m hto) ?_
                (conv => arg 1; ext i; whnf)
                refine Evx.appd rfl (m := ((trees ((ms.take a).map fun m => .node t.fn t.vs [m])).length + 1) * 65) (by rw [trees_len, List.length_map, List.length_take]; omega) ?_
                (conv => arg 1; ext i; whnf)
                refine Evx.int (wrap_succ (n := a) (by omega)) ?_
                (conv => arg 1; ext i; whnf)
                refine ihl (a + 1) _ (by omega) ?_
                intro j
                rw [take_succ' hm, List.map_append, trees_app, List.map_cons, List.map_nil, trees_cons]
                kernel_rfl
              · have h2 := hold_false.1 h2
                simp only [trees_len, decide_eq_false_iff_not] at h2
                (conv => arg 1; ext i; whnf)
                refine Evx.pure ?_
                rw [List.take_of_length_le (by omega)]
                rfl
            · rw [hv] at ek
              rw [hms]
              refine Evx.call ek ?_
              (conv => arg 1; ext i; whnf)
              refine (Evx.loop hint14 17 (α := Unit) (fun a => [some (.own (.tmp 1 5 0) 3 []), some (.d (wrapF t)), some (.d .nils), some (.d (.int .i64 0)), some (.d (.int .i64 0))]) (fun a => []) 1 [] (fun a => 0) (fun a => _) ?_ () (fun _ => rfl) (fun _ => rfl) (fun _ => rfl) (fun _ => by kernel_rfl))
              rintro ⟨⟩ bx L ihl; (conv => arg 1; ext i; whnf)
              refine Evx.bool (fun h2 => ?_) (fun h2 => ?_)
              · exact absurd (hold_true.1 h2) (by decide)
              (conv => arg 1; ext i; whnf)
              exact Evx.pure rfl
    | some p =>
      obtain ⟨s, p⟩ := p
      simp only [frameOut]
      (conv => arg 1; ext i; whnf)
      refine Evx.call (frame_ev u) ?_
      cases hfu : frameT u with
      | none =>
        simp only [frameOut]
        (conv => arg 1; ext i; whnf)
        refine Evx.call (wrapper_ev t) ?_
        cases hwt : wrapT t with
        | none =>
          simp only [wrapOut, hwt]
          (conv => arg 1; ext i; whnf)
          refine Evx.call (wrapper_ev u) ?_
          have hmv : mergeV t u = .d .nils := by
            rw [mergeV, merge_none (.inr hfu) (.inl hwt)]
            simp [wrapM, hwt]
          rw [hmv]
          cases hwu : wrapT u with
          | none => simp only [wrapOut, hwu]; (conv => arg 1; ext i; whnf); exact Evx.pure rfl
          | some l => simp only [wrapOut, hwu]; (conv => arg 1; ext i; whnf); exact Evx.pure rfl
        | some k =>
          simp only [wrapOut, hwt]
          (conv => arg 1; ext i; whnf)
          refine Evx.call (wrapper_ev u) ?_
          cases hwu : wrapT u with
          | none =>
            have hmv : mergeV t u = .d .nils := by
              rw [mergeV, merge_none (.inr hfu) (.inr hwu)]
              simp [wrapM, hwu]
            rw [hmv]
            simp only [wrapOut, hwu]; (conv => arg 1; ext i; whnf); exact Evx.pure rfl
          | some l =>
            simp only [wrapOut, hwu]
            (conv => arg 1; ext i; whnf)
            refine Evx.call (equal_ints t.vs u.vs (by have := hto.vs; omega)) ?_
            (conv => arg 1; ext i; whnf)
            refine Evx.bool (fun h5 => ?_) (fun h5 => ?_)
            · have hne : t.vs ≠ u.vs := by simpa using h5
              have hmv : mergeV t u = .d .nils := by
                rw [mergeV, merge_wrap hfn hwt hwu, if_neg hne]
                simp [wrapM, hne]
              rw [hmv]
              (conv => arg 1; ext i; whnf)
              exact Evx.pure rfl
            have hve : t.vs = u.vs := by simpa using h5
            have hmm := merge_wrap hfn hwt hwu
            rw [if_pos hve] at hmm
            have hmv : mergeV t u = .own (.res 0) 3 (trees ((mergeT k l).map fun m => .node t.fn t.vs [m])) := by
              rw [mergeV, hmm]
              exact if_pos (.inl (by simp [wrapM, hfn, hwt, hwu, hve]))
            rw [hmv]
            obtain ⟨_, hk1⟩ := wrapT_some hwt
            obtain ⟨_, hk2⟩ := wrapT_some hwu
            have k0 : t.ks[0]? = some k := by rw [hk1]; rfl
            have l0 : u.ks[0]? = some l := by rw [hk2]; rfl
            have hkb := Tree.kid_lt k0
            have hlb := Tree.kid_lt l0
            have ek := ih 0 k k0 l (by omega) (by omega)
            have hml := merge_len k l
            have hmb := merge_bulk k l
            (conv => arg 1; ext i; whnf)
            refine Evx.idx (m := 0) rfl (trees_get k0) ?_
            (conv => arg 1; ext i; whnf)
            refine Evx.idx (m := 0) rfl (trees_get l0) ?_
            (conv => arg 1; ext i; whnf)
            rcases mergeV_cases k l with hv | ⟨hv, hms⟩
            · rw [hv] at ek
              generalize mergeT k l = ms at *
              refine Evx.call ek ?_
              (conv => arg 1; ext i; whnf)
              refine (Evx.loop hint14 17 (α := Nat) (fun a => [some (.own (.tmp 1 5 0) 3 (trees ((ms.take a).map fun m => .node t.fn t.vs [m]))), some (.d (wrapF t)), some (.d (.sl 3 (trees ms))), some (.d (.int .i64 (trees ms).length)), some (.d (.int .i64 a))]) (fun a => []) 1 [] (fun a => ms.length - a) (fun a => _) ?_ 0 (fun _ => rfl) (fun _ => rfl) (fun _ => rfl) (fun _ => by kernel_rfl))
              intro a bx L ihl; (conv => arg 1; ext i; whnf)
              refine Evx.bool (fun h2 => ?_) (fun h2 => ?_)
              · have h2 := hold_true.1 h2
                simp only [trees_len, decide_eq_true_eq] at h2
                obtain ⟨m, hm⟩ := get_some (l := ms) (i := a) (by omega)
                (conv => arg 1; ext i; whnf)
                refine Evx.idx (m := a) rfl (trees_get hm) ?_
                (conv => arg 1; ext i; whnf)
                refine Evx.call (wrapF_ev t m hto) ?_
                (conv => arg 1; ext i; whnf)
                refine Evx.appd rfl (m := ((trees ((ms.take a).map fun m => .node t.fn t.vs [m])).length + 1) * 65) (by rw [trees_len, List.length_map, List.length_take]; omega) ?_
                (conv => arg 1; ext i; whnf)
                refine Evx.int (wrap_succ (n := a) (by omega)) ?_
                (conv => arg 1; ext i; whnf)
                refine ihl (a + 1) _ (by omega) ?_
                intro j
                rw [take_succ' hm, List.map_append, trees_app, List.map_cons, List.map_nil, trees_cons]
                kernel_rfl
              · have h2 := hold_false.1 h2
                simp only [trees_len, decide_eq_false_iff_not] at h2
                (conv => arg 1; ext i; whnf)
                refine Evx.pure ?_
                rw [List.take_of_length_le (by omega)]
                rfl
            · rw [hv] at ek
              rw [hms]
              refine Evx.call ek ?_
              (conv => arg 1; ext i; whnf)
              refine (Evx.loop hint14 17 (α := Unit) (fun a => [some (.own (.tmp 1 5 0) 3 []), some (.d (wrapF t)), some (.d .nils), some (.d (.int .i64 0)), some (.d (.int .i64 0))]) (fun a => []) 1 [] (fun a => 0) (fun a => _) ?_ () (fun _ => rfl) (fun _ => rfl) (fun _ => rfl) (fun _ => by kernel_rfl))
              rintro ⟨⟩ bx L ihl; (conv => arg 1; ext i; whnf)
              refine Evx.bool (fun h2 => ?_) (fun h2 => ?_)
              · exact absurd (hold_true.1 h2) (by decide)
              (conv => arg 1; ext i; whnf)
              exact Evx.pure rfl
      | some q =>
        obtain ⟨x, y⟩ := q
        simp only [frameOut]
        have hm := merge_frame hfn hft hfu
        obtain ⟨hf4, hks⟩ := frameT_some hft
        obtain ⟨_, hks'⟩ := frameT_some hfu
        have b1 : s.bulk + p.bulk < 2 ^ 28 := by rw [t.bulk_eq, hks] at ht; simp only [bulks] at ht; omega
        have b2 : x.bulk + y.bulk < 2 ^ 28 := by rw [u.bulk_eq, hks'] at hu; simp only [bulks] at hu; omega
        have okof : ∀ {z : Tree}, z.bulk < 2 ^ 29 → z.ok := fun h => by unfold Tree.ok; omega
        have two : ∀ {a b : Tree}, a.ok → b.ok → ∀ (i : Nat) z, [a, b][i]? = some z → z.ok := by
          intro a b ha hb i z hz
          match i, hz with
          | 0, hz => cases hz; exact ha
          | 1, hz => cases hz; exact hb
        have nb : (Tree.node sBoth [] [s, x]).ok := by unfold Tree.ok; simp only [Tree.bulk, bulks, List.length_nil]; omega
        have na : (Tree.node sAndVP [] [p, y]).ok := by unfold Tree.ok; simp only [Tree.bulk, bulks, List.length_nil]; omega
        have e1 := node_ev sBoth [s, x] (by simp) (two (okof (by omega)) (okof (by omega)))
        have e2 := node_ev t.fn [.node sBoth [] [s, x], p] (by simp) (two nb (okof (by omega)))
        have e3 := node_ev sAndVP [p, y] (by simp) (two (okof (by omega)) (okof (by omega)))
        have e4 := node_ev t.fn [s, .node sAndVP [] [p, y]] (by simp) (two (okof (by omega)) na)
        rw [trees_cons, trees_cons] at e1 e2 e3 e4
        (conv => arg 1; ext i; whnf)
        refine Evx.call (same_ev p y (okof (by omega))) ?_
        (conv => arg 1; ext i; whnf)
        refine Evx.bool (fun h1 => ?_) (fun h1 => ?_)
        · have hpy := (same_iff p y).1 h1
          (conv => arg 1; ext i; whnf)
          refine Evx.call e1 ?_
          (conv => arg 1; ext i; whnf)
          refine Evx.call e2 ?_
          (conv => arg 1; ext i; whnf)
          refine Evx.appd rfl (m := 1 * 65) (by decide) ?_
          (conv => arg 1; ext i; whnf)
          refine Evx.call (same_ev s x (okof (by omega))) ?_
          (conv => arg 1; ext i; whnf)
          refine Evx.bool (fun h3 => ?_) (fun h3 => ?_)
          · have hsx := (same_iff s x).1 h3
            (conv => arg 1; ext i; whnf)
            refine Evx.call e3 ?_
            (conv => arg 1; ext i; whnf)
            refine Evx.call e4 ?_
            (conv => arg 1; ext i; whnf)
            refine Evx.appd rfl (m := (1 + 1) * 65) (by decide) ?_
            (conv => arg 1; ext i; whnf)
            refine Evx.pure ?_
            have hmv : mergeV t u = .own (.res 0) 3 (trees (joinF t.fn s p x y)) := by
              rw [mergeV, hm, joinF, if_pos hpy, if_pos hsx]; exact if_pos (.inr (by simp))
            rw [hmv, joinF, if_pos hpy, if_pos hsx]
            simp only [List.cons_append, List.nil_append, trees_cons]
            rfl
          · have hsx : s ≠ x := fun e => by rw [(same_iff s x).2 e] at h3; cases h3
            (conv => arg 1; ext i; whnf)
            refine Evx.pure ?_
            have hmv : mergeV t u = .own (.res 0) 3 (trees (joinF t.fn s p x y)) := by
              rw [mergeV, hm, joinF, if_pos hpy, if_neg hsx]; exact if_pos (.inr (by simp))
            rw [hmv, joinF, if_pos hpy, if_neg hsx]
            simp only [List.append_nil, trees_cons]
            rfl
        · have hpy : p ≠ y := fun e => by rw [(same_iff p y).2 e] at h1; cases h1
          (conv => arg 1; ext i; whnf)
          refine Evx.call (same_ev s x (okof (by omega))) ?_
          (conv => arg 1; ext i; whnf)
          refine Evx.bool (fun h3 => ?_) (fun h3 => ?_)
          · have hsx := (same_iff s x).1 h3
            (conv => arg 1; ext i; whnf)
            refine Evx.call e3 ?_
            (conv => arg 1; ext i; whnf)
            refine Evx.call e4 ?_
            (conv => arg 1; ext i; whnf)
            refine Evx.appd rfl (m := 1 * 65) (by decide) ?_
            (conv => arg 1; ext i; whnf)
            refine Evx.pure ?_
            have hmv : mergeV t u = .own (.res 0) 3 (trees (joinF t.fn s p x y)) := by
              rw [mergeV, hm, joinF, if_neg hpy, if_pos hsx]; exact if_pos (.inr (by simp))
            rw [hmv, joinF, if_neg hpy, if_pos hsx]
            simp only [List.nil_append, trees_cons]
            rfl
          · have hsx : s ≠ x := fun e => by rw [(same_iff s x).2 e] at h3; cases h3
            (conv => arg 1; ext i; whnf)
            refine Evx.pure ?_
            have hwn : wrapT t = none := wrapT_none (.inl (frame_wrap4 hf4))
            have hmv : mergeV t u = .d .nils := by
              rw [mergeV, hm, joinF, if_neg hpy, if_neg hsx]
              simp [wrapM, hwn]
            rw [hmv]

theorem rMerge_ev (t : Tree) : ∀ u, t.bulk < 2 ^ 28 → u.bulk < 2 ^ 28 → Ev pr 15 [t.d, u.d] (.ret [.own (.res 0) 3 (trees (mergeT t u))]) := by
  induction t using Tree.rec' with
  | _ t ih =>
    intro u ht hu
    have hto : t.ok := by unfold Tree.ok; omega
    have huo : u.ok := by unfold Tree.ok; omega
    apply Ev.enter; intro c; (conv => arg 1; ext i; whnf)
    refine Evx.call (rFrame_ev t) ?_
    cases hft : frameT t with
    | none =>
      simp only [frameOut']
      (conv => arg 1; ext i; whnf)
      refine Evx.call (rFrame_ev u) ?_
      cases hfu : frameT u with
      | none =>
        simp only [frameOut']
        -- frames that do not come together
        (conv => arg 1; ext i; whnf)
        refine Evx.call (rwrapper_ev t) ?_
        cases hwt : wrapT t with
        | none =>
          rw [merge_none (.inl hft) (.inl hwt)]
          (conv => arg 1; ext i; whnf)
          exact Evx.pure rfl
        | some k =>
          (conv => arg 1; ext i; whnf)
          refine Evx.call (rwrapper_ev u) ?_
          cases hwu : wrapT u with
          | none =>
            rw [merge_none (.inl hft) (.inr hwu)]
            (conv => arg 1; ext i; whnf)
            exact Evx.pure rfl
          | some l =>
            (conv => arg 1; ext i; whnf)
            refine Evx.call (agree_ev t u hto) ?_
            (conv => arg 1; ext i; whnf)
            refine Evx.bool (fun h5 => ?_) (fun h5 => ?_)
            · simp only [Bool.and_eq_true, decide_eq_true_eq] at h5
              obtain ⟨hfn, hve⟩ := h5
              have hmm := merge_wrap hfn hwt hwu
              rw [if_pos hve] at hmm
              rw [hmm]
              obtain ⟨_, hk1⟩ := wrapT_some hwt
              obtain ⟨_, hk2⟩ := wrapT_some hwu
              have k0 : t.ks[0]? = some k := by rw [hk1]; rfl
              have l0 : u.ks[0]? = some l := by rw [hk2]; rfl
              have hkb := Tree.kid_lt k0
              have hlb := Tree.kid_lt l0
              have ek := ih 0 k k0 l (by omega) (by omega)
              have hml := merge_len k l
              (conv => arg 1; ext i; whnf)
              refine Evx.idx (m := 0) rfl (trees_get k0) ?_
              (conv => arg 1; ext i; whnf)
              refine Evx.idx (m := 0) rfl (trees_get l0) ?_
              (conv => arg 1; ext i; whnf)
              generalize mergeT k l = ms at *
              refine Evx.call ek ?_
              (conv => arg 1; ext i; whnf)
              refine (Evx.loop hint15 11 (α := Nat) (fun a => [some (.ptr 1 2 0), some (.own (.tmp 1 5 0) 3 (trees ((ms.take a).map fun m => .node t.fn t.vs [m]))), some (.d (.sl 3 (trees ms))), some (.d (.int .i64 (trees ms).length)), some (.d (.int .i64 a))]) (fun a => [some (treeBox t)]) 1 [] (fun a => ms.length - a) (fun a => _) ?_ 0 (fun _ => rfl) (fun _ => rfl) (fun _ => rfl) (fun _ => by kernel_rfl))
              intro a bx L ihl; (conv => arg 1; ext i; whnf)
              refine Evx.bool (fun h2 => ?_) (fun h2 => ?_)
              · have h2 := hold_true.1 h2
                simp only [trees_len, decide_eq_true_eq] at h2
                obtain ⟨m, hm⟩ := get_some (l := ms) (i := a) (by omega)
                (conv => arg 1; ext i; whnf)
                refine Evx.idx (m := a) rfl (trees_get hm) ?_
                (conv => arg 1; ext i; whnf)
                refine Evx.call (rwrap_ev t m hto) ?_
                (conv => arg 1; ext i; whnf)
                refine Evx.appd rfl (m := ((trees ((ms.take a).map fun m => .node t.fn t.vs [m])).length + 1) * 65) (by rw [trees_len, List.length_map, List.length_take]; omega) ?_
                (conv => arg 1; ext i; whnf)
                refine Evx.int (wrap_succ (n := a) (by omega)) ?_
                (conv => arg 1; ext i; whnf)
                refine ihl (a + 1) _ (by omega) ?_
                intro j
                rw [take_succ' hm, List.map_append, trees_app, List.map_cons, List.map_nil, trees_cons]
                kernel_rfl
              · have h2 := hold_false.1 h2
                simp only [trees_len, decide_eq_false_iff_not] at h2
                (conv => arg 1; ext i; whnf)
                refine Evx.pure ?_
                rw [List.take_of_length_le (by omega)]
                rfl
            · have hm0 : mergeT t u = [] := by
                by_cases hfn : t.fn = u.fn
                · rw [merge_wrap hfn hwt hwu, if_neg]
                  intro hve
                  rw [decide_eq_true hfn, decide_eq_true hve] at h5
                  cases h5
                · exact merge_ne hfn
              rw [hm0]
              (conv => arg 1; ext i; whnf)
              exact Evx.pure rfl
      | some q =>
        obtain ⟨x, y⟩ := q
        simp only [frameOut']
        -- frames that do not come together
        (conv => arg 1; ext i; whnf)
        refine Evx.call (rwrapper_ev t) ?_
        cases hwt : wrapT t with
        | none =>
          rw [merge_none (.inl hft) (.inl hwt)]
          (conv => arg 1; ext i; whnf)
          exact Evx.pure rfl
        | some k =>
          (conv => arg 1; ext i; whnf)
          refine Evx.call (rwrapper_ev u) ?_
          cases hwu : wrapT u with
          | none =>
            rw [merge_none (.inl hft) (.inr hwu)]
            (conv => arg 1; ext i; whnf)
            exact Evx.pure rfl
          | some l =>
            (conv => arg 1; ext i; whnf)
            refine Evx.call (agree_ev t u hto) ?_
            (conv => arg 1; ext i; whnf)
            refine Evx.bool (fun h5 => ?_) (fun h5 => ?_)
            · simp only [Bool.and_eq_true, decide_eq_true_eq] at h5
              obtain ⟨hfn, hve⟩ := h5
              have hmm := merge_wrap hfn hwt hwu
              rw [if_pos hve] at hmm
              rw [hmm]
              obtain ⟨_, hk1⟩ := wrapT_some hwt
              obtain ⟨_, hk2⟩ := wrapT_some hwu
              have k0 : t.ks[0]? = some k := by rw [hk1]; rfl
              have l0 : u.ks[0]? = some l := by rw [hk2]; rfl
              have hkb := Tree.kid_lt k0
              have hlb := Tree.kid_lt l0
              have ek := ih 0 k k0 l (by omega) (by omega)
              have hml := merge_len k l
              (conv => arg 1; ext i; whnf)
              refine Evx.idx (m := 0) rfl (trees_get k0) ?_
              (conv => arg 1; ext i; whnf)
              refine Evx.idx (m := 0) rfl (trees_get l0) ?_
              (conv => arg 1; ext i; whnf)
              generalize mergeT k l = ms at *
              refine Evx.call ek ?_
              (conv => arg 1; ext i; whnf)
              refine (Evx.loop hint15 11 (α := Nat) (fun a => [some (.ptr 1 2 0), some (.own (.tmp 1 5 0) 3 (trees ((ms.take a).map fun m => .node t.fn t.vs [m]))), some (.d (.sl 3 (trees ms))), some (.d (.int .i64 (trees ms).length)), some (.d (.int .i64 a))]) (fun a => [some (treeBox t)]) 1 [] (fun a => ms.length - a) (fun a => _) ?_ 0 (fun _ => rfl) (fun _ => rfl) (fun _ => rfl) (fun _ => by kernel_rfl))
              intro a bx L ihl; (conv => arg 1; ext i; whnf)
              refine Evx.bool (fun h2 => ?_) (fun h2 => ?_)
              · have h2 := hold_true.1 h2
                simp only [trees_len, decide_eq_true_eq] at h2
                obtain ⟨m, hm⟩ := get_some (l := ms) (i := a) (by omega)
                (conv => arg 1; ext i; whnf)
                refine Evx.idx (m := a) rfl (trees_get hm) ?_
                (conv => arg 1; ext i; whnf)
                refine Evx.call (rwrap_ev t m hto) ?_
                (conv => arg 1; ext i; whnf)
                refine Evx.appd rfl (m := ((trees ((ms.take a).map fun m => .node t.fn t.vs [m])).length + 1) * 65) (by rw [trees_len, List.length_map, List.length_take]; omega) ?_
                (conv => arg 1; ext i; whnf)
                refine Evx.int (wrap_succ (n := a) (by omega)) ?_
                (conv => arg 1; ext i; whnf)
                refine ihl (a + 1) _ (by omega) ?_
                intro j
                rw [take_succ' hm, List.map_append, trees_app, List.map_cons, List.map_nil, trees_cons]
                kernel_rfl
              · have h2 := hold_false.1 h2
                simp only [trees_len, decide_eq_false_iff_not] at h2
                (conv => arg 1; ext i; whnf)
                refine Evx.pure ?_
                rw [List.take_of_length_le (by omega)]
                rfl
            · have hm0 : mergeT t u = [] := by
                by_cases hfn : t.fn = u.fn
                · rw [merge_wrap hfn hwt hwu, if_neg]
                  intro hve
                  rw [decide_eq_true hfn, decide_eq_true hve] at h5
                  cases h5
                · exact merge_ne hfn
              rw [hm0]
              (conv => arg 1; ext i; whnf)
              exact Evx.pure rfl
    | some p =>
      obtain ⟨s, p⟩ := p
      simp only [frameOut']
      (conv => arg 1; ext i; whnf)
      refine Evx.call (rFrame_ev u) ?_
      cases hfu : frameT u with
      | none =>
        simp only [frameOut']
        -- frames that do not come together
        (conv => arg 1; ext i; whnf)
        refine Evx.call (rwrapper_ev t) ?_
        cases hwt : wrapT t with
        | none =>
          rw [merge_none (.inr hfu) (.inl hwt)]
          (conv => arg 1; ext i; whnf)
          exact Evx.pure rfl
        | some k =>
          (conv => arg 1; ext i; whnf)
          refine Evx.call (rwrapper_ev u) ?_
          cases hwu : wrapT u with
          | none =>
            rw [merge_none (.inr hfu) (.inr hwu)]
            (conv => arg 1; ext i; whnf)
            exact Evx.pure rfl
          | some l =>
            (conv => arg 1; ext i; whnf)
            refine Evx.call (agree_ev t u hto) ?_
            (conv => arg 1; ext i; whnf)
            refine Evx.bool (fun h5 => ?_) (fun h5 => ?_)
            · simp only [Bool.and_eq_true, decide_eq_true_eq] at h5
              obtain ⟨hfn, hve⟩ := h5
              have hmm := merge_wrap hfn hwt hwu
              rw [if_pos hve] at hmm
              rw [hmm]
              obtain ⟨_, hk1⟩ := wrapT_some hwt
              obtain ⟨_, hk2⟩ := wrapT_some hwu
              have k0 : t.ks[0]? = some k := by rw [hk1]; rfl
              have l0 : u.ks[0]? = some l := by rw [hk2]; rfl
              have hkb := Tree.kid_lt k0
              have hlb := Tree.kid_lt l0
              have ek := ih 0 k k0 l (by omega) (by omega)
              have hml := merge_len k l
              (conv => arg 1; ext i; whnf)
              refine Evx.idx (m := 0) rfl (trees_get k0) ?_
              (conv => arg 1; ext i; whnf)
              refine Evx.idx (m := 0) rfl (trees_get l0) ?_
              (conv => arg 1; ext i; whnf)
              generalize mergeT k l = ms at *
              refine Evx.call ek ?_
              (conv => arg 1; ext i; whnf)
              refine (Evx.loop hint15 11 (α := Nat) (fun a => [some (.ptr 1 2 0), some (.own (.tmp 1 5 0) 3 (trees ((ms.take a).map fun m => .node t.fn t.vs [m]))), some (.d (.sl 3 (trees ms))), some (.d (.int .i64 (trees ms).length)), some (.d (.int .i64 a))]) (fun a => [some (treeBox t)]) 1 [] (fun a => ms.length - a) (fun a => _) ?_ 0 (fun _ => rfl) (fun _ => rfl) (fun _ => rfl) (fun _ => by kernel_rfl))
              intro a bx L ihl; (conv => arg 1; ext i; whnf)
              refine Evx.bool (fun h2 => ?_) (fun h2 => ?_)
              · have h2 := hold_true.1 h2
                simp only [trees_len, decide_eq_true_eq] at h2
                obtain ⟨m, hm⟩ := get_some (l := ms) (i := a) (by omega)
                (conv => arg 1; ext i; whnf)
                refine Evx.idx (m := a) rfl (trees_get hm) ?_
                (conv => arg 1; ext i; whnf)
                refine Evx.call (rwrap_ev t m hto) ?_
                (conv => arg 1; ext i; whnf)
                refine Evx.appd rfl (m := ((trees ((ms.take a).map fun m => .node t.fn t.vs [m])).length + 1) * 65) (by rw [trees_len, List.length_map, List.length_take]; omega) ?_
                (conv => arg 1; ext i; whnf)
                refine Evx.int (wrap_succ (n := a) (by omega)) ?_
                (conv => arg 1; ext i; whnf)
                refine ihl (a + 1) _ (by omega) ?_
                intro j
                rw [take_succ' hm, List.map_append, trees_app, List.map_cons, List.map_nil, trees_cons]
                kernel_rfl
              · have h2 := hold_false.1 h2
                simp only [trees_len, decide_eq_false_iff_not] at h2
                (conv => arg 1; ext i; whnf)
                refine Evx.pure ?_
                rw [List.take_of_length_le (by omega)]
                rfl
            · have hm0 : mergeT t u = [] := by
                by_cases hfn : t.fn = u.fn
                · rw [merge_wrap hfn hwt hwu, if_neg]
                  intro hve
                  rw [decide_eq_true hfn, decide_eq_true hve] at h5
                  cases h5
                · exact merge_ne hfn
              rw [hm0]
              (conv => arg 1; ext i; whnf)
              exact Evx.pure rfl
      | some q =>
        obtain ⟨x, y⟩ := q
        simp only [frameOut']
        obtain ⟨hf4, hks⟩ := frameT_some hft
        obtain ⟨_, hks'⟩ := frameT_some hfu
        have hwn : wrapT t = none := wrapT_none (.inl (frame_wrap4 hf4))
        (conv => arg 1; ext i; whnf)
        refine Evx.bool (fun h => ?_) (fun h => ?_)
        case refine_2 =>
          have hfn := seq_ne.1 h
          rw [merge_ne hfn]
          (conv => arg 1; ext i; whnf)
          refine Evx.call (rwrapper_ev t) ?_
          rw [hwn]
          (conv => arg 1; ext i; whnf)
          exact Evx.pure rfl
        have hfn := seq_iff.1 h
        have hm := merge_frame hfn hft hfu
        have b1 : s.bulk + p.bulk < 2 ^ 28 := by rw [t.bulk_eq, hks] at ht; simp only [bulks] at ht; omega
        have b2 : x.bulk + y.bulk < 2 ^ 28 := by rw [u.bulk_eq, hks'] at hu; simp only [bulks] at hu; omega
        have okof : ∀ {z : Tree}, z.bulk < 2 ^ 29 → z.ok := fun h => by unfold Tree.ok; omega
        have e1 := rtree_ev sBoth [s, x] (by simp)
        have e2 := rtree_ev t.fn [.node sBoth [] [s, x], p] (by simp)
        have e3 := rtree_ev sAndVP [p, y] (by simp)
        have e4 := rtree_ev t.fn [s, .node sAndVP [] [p, y]] (by simp)
        rw [trees_cons, trees_cons] at e1 e2 e3 e4
        (conv => arg 1; ext i; whnf)
        refine Evx.call (rSame_ev p y (okof (by omega))) ?_
        (conv => arg 1; ext i; whnf)
        refine Evx.bool (fun h1 => ?_) (fun h1 => ?_)
        · have hpy := (same_iff p y).1 h1
          (conv => arg 1; ext i; whnf)
          refine Evx.call e1 ?_
          (conv => arg 1; ext i; whnf)
          refine Evx.call e2 ?_
          (conv => arg 1; ext i; whnf)
          refine Evx.appd rfl (m := (0 + 1) * 65) (by decide) ?_
          (conv => arg 1; ext i; whnf)
          refine Evx.call (rSame_ev s x (okof (by omega))) ?_
          (conv => arg 1; ext i; whnf)
          refine Evx.bool (fun h3 => ?_) (fun h3 => ?_)
          · have hsx := (same_iff s x).1 h3
            (conv => arg 1; ext i; whnf)
            refine Evx.call e3 ?_
            (conv => arg 1; ext i; whnf)
            refine Evx.call e4 ?_
            (conv => arg 1; ext i; whnf)
            refine Evx.appd rfl (m := (1 + 1) * 65) (by decide) ?_
            (conv => arg 1; ext i; whnf)
            refine Evx.call (rwrapper_ev t) ?_
            rw [hwn]
            (conv => arg 1; ext i; whnf)
            refine Evx.pure ?_
            rw [hm, joinF, if_pos hpy, if_pos hsx]
            simp only [List.cons_append, List.nil_append, List.append_nil, trees_cons]
            rfl
          · have hsx : s ≠ x := fun e => by rw [(same_iff s x).2 e] at h3; cases h3
            (conv => arg 1; ext i; whnf)
            refine Evx.call (rwrapper_ev t) ?_
            rw [hwn]
            (conv => arg 1; ext i; whnf)
            refine Evx.pure ?_
            rw [hm, joinF, if_pos hpy, if_neg hsx]
            simp only [List.cons_append, List.nil_append, List.append_nil, trees_cons]
            rfl
        · have hpy : p ≠ y := fun e => by rw [(same_iff p y).2 e] at h1; cases h1
          (conv => arg 1; ext i; whnf)
          refine Evx.call (rSame_ev s x (okof (by omega))) ?_
          (conv => arg 1; ext i; whnf)
          refine Evx.bool (fun h3 => ?_) (fun h3 => ?_)
          · have hsx := (same_iff s x).1 h3
            (conv => arg 1; ext i; whnf)
            refine Evx.call e3 ?_
            (conv => arg 1; ext i; whnf)
            refine Evx.call e4 ?_
            (conv => arg 1; ext i; whnf)
            refine Evx.appd rfl (m := (0 + 1) * 65) (by decide) ?_
            (conv => arg 1; ext i; whnf)
            refine Evx.call (rwrapper_ev t) ?_
            rw [hwn]
            (conv => arg 1; ext i; whnf)
            refine Evx.pure ?_
            rw [hm, joinF, if_neg hpy, if_pos hsx]
            simp only [List.cons_append, List.nil_append, List.append_nil, trees_cons]
            rfl
          · have hsx : s ≠ x := fun e => by rw [(same_iff s x).2 e] at h3; cases h3
            (conv => arg 1; ext i; whnf)
            refine Evx.call (rwrapper_ev t) ?_
            rw [hwn]
            (conv => arg 1; ext i; whnf)
            refine Evx.pure ?_
            rw [hm, joinF, if_neg hpy, if_neg hsx]
            simp only [List.cons_append, List.nil_append, List.append_nil, trees_cons]
            rfl
end Go.Proofs.YtfiefcfjedmhaaaDoor
